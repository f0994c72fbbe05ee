/- The evaluator, its proof and the logic over it: texts joined by wip/mkclaim.py. -/
import GoSem.Dispatch
import GoSem.Machine.Frame
import Derived.Orders
import Derived.Below
import Derived.Laws.Cells
import Derived.Laws.StructEq
import Derived.Laws.Tables
import Derived.Laws.Entries
import Derived.Laws.MakeOwn
import Derived.Great.BuildSlice
import Derived.Laws.Append
import Derived.Laws.BytesString
set_option linter.unusedSimpArgs false
set_option linter.unusedVariables false
set_option linter.unusedSectionVars false
set_option linter.unnecessarySimpa false
/- The abstract evaluator ("Shade"): a deterministic evaluator of the kit's code over an abstract heap. Definitions alone, part 1: the heap, the state, what is read and written. Typed so that the kernel runs it: small functions, each state taken apart by its parts. -/
namespace Go.Shade

/-- A finite map from numbers, as a binary tree: quick where the kernel runs it. -/
inductive Tr (α : Type) where
  | nil
  | node (l : Tr α) (v : Option α) (r : Tr α)

def Tr.getF {α : Type} : Nat → Tr α → Nat → Option α
  | 0, _, _ => none
  | _ + 1, .nil, _ => none
  | f + 1, .node l v r, k => match Nat.beq k 0 with
    | true => v
    | false => match Nat.beq (k % 2) 1 with
      | true => Tr.getF f l (k / 2)
      | false => Tr.getF f r (k / 2 - 1)

def Tr.setF {α : Type} : Nat → Tr α → Nat → α → Tr α
  | 0, t, _, _ => t
  | f + 1, .nil, k, x => match Nat.beq k 0 with
    | true => .node .nil (some x) .nil
    | false => match Nat.beq (k % 2) 1 with
      | true => .node (Tr.setF f .nil (k / 2) x) none .nil
      | false => .node .nil none (Tr.setF f .nil (k / 2 - 1) x)
  | f + 1, .node l v r, k, x => match Nat.beq k 0 with
    | true => .node l (some x) r
    | false => match Nat.beq (k % 2) 1 with
      | true => .node (Tr.setF f l (k / 2) x) v r
      | false => .node l v (Tr.setF f r (k / 2 - 1) x)

def Tr.get {α : Type} (t : Tr α) (k : Nat) : Option α := Tr.getF (k + 1) t k
def Tr.set {α : Type} (t : Tr α) (k : Nat) (x : α) : Tr α := Tr.setF (k + 1) t k x

/-- The element at a place, or none. -/
def nth {α : Type} : List α → Nat → Option α
  | [], _ => none
  | x :: _, 0 => some x
  | _ :: l, i + 1 => nth l i

/-- A list from a place on; none: it is shorter. -/
def dropO {α : Type} : Nat → List α → Option (List α)
  | 0, l => some l
  | _ + 1, [] => none
  | i + 1, _ :: l => dropO i l
/-- Its first elements; none: it has not so many. -/
def takeO {α : Type} : Nat → List α → Option (List α)
  | 0, _ => some []
  | _ + 1, [] => none
  | i + 1, x :: l => match takeO i l with
    | none => none
    | some r => some (x :: r)
/-- What is written over the beginning; none: there is not room. -/
def over {α : Type} : List α → List α → Option (List α)
  | [], l => some l
  | _ :: _, [] => none
  | v :: vs, _ :: l => match over vs l with
    | none => none
    | some r => some (v :: r)
/-- What is written from a place on. -/
def putAt {α : Type} : Nat → List α → List α → Option (List α)
  | 0, vs, l => over vs l
  | _ + 1, _, [] => none
  | i + 1, vs, x :: l => match putAt i vs l with
    | none => none
    | some r => some (x :: r)

/-- A number, brought to its own form before what follows (for the kernel's sake). -/
def force {α : Type} (n : Nat) (k : Nat → α) : α := match n with | 0 => k 0 | m + 1 => k (m + 1)
def forceI {α : Type} (i : Int) (k : Int → α) : α := match i with
  | .ofNat m => force m fun m => k (.ofNat m)
  | .negSucc m => force m fun m => k (.negSucc m)

/-- An abstract object. Of cells: what they hold; whether they may be written; the older objects that may lie in the same memory; the size of an element that an append made it of. -/
inductive AObj where
  | cells (cs : List Value) (rw : Bool) (old : List Nat) (esz : Nat)
  | iter (s : ByteArray) (pos : Nat)
  | map (es : List (Value × Value))
  | dead

/-- An access to an older object. -/
structure Acc where
  wr : Bool
  b : Nat

structure S where
  n : Nat
  H : Tr AObj
  lim : Nat
  log : List Acc

abbrev M (α : Type) := S → Option (α × S)
def M.ret {α : Type} (a : α) : M α := fun s => some (a, s)
def M.bnd {α β : Type} (x : M α) (f : α → M β) : M β := fun s => match x s with
  | none => none
  | some (a, s') => f a s'
def M.fail {α : Type} : M α := fun _ => none
def M.opt {α : Type} (o : Option α) : M α := fun s => match o with
  | none => none
  | some a => some (a, s)

/-- The log with one access more, if the object is an older one. -/
def note (b lim : Nat) (log : List Acc) (wr : Bool) : List Acc :=
  match Nat.blt b lim with
  | true => ⟨wr, b⟩ :: log
  | false => log

def rowOf (cs : List Value) (lo cnt : Nat) : Option (List Value) := match dropO lo cs with
  | none => none
  | some l => takeO cnt l

/-- Look at an object, and put another one in its place, if there is one. -/
def touch {α : Type} (b : Nat) (f : AObj → Option (α × Option AObj)) : M α
  | ⟨n, H, lim, log⟩ => match Nat.blt b n with
    | true => match H.get b with
      | some x => match f x with
        | some (a, none) => some (a, ⟨n, H, lim, note b lim log false⟩)
        | some (a, some y) => some (a, ⟨n, H.set b y, lim, note b lim log true⟩)
        | none => none
      | none => none
    | false => none

/-- What is only looked at. -/
def seenO {α : Type} (o : Option α) : Option (α × Option AObj) := match o with
  | some a => some (a, none)
  | none => none

/-- Read cnt cells. -/
def rdRow (b lo cnt : Nat) : M (List Value) := touch b fun x => match x with
  | .cells cs _ _ _ => seenO (rowOf cs lo cnt)
  | _ => none

def rdCell (b i : Nat) : M Value := touch b fun x => match x with
  | .cells cs _ _ _ => seenO (nth cs i)
  | _ => none

def oneCell : Value → Bool
  | .agg _ | .tuple _ => false
  | _ => true

/-- Older objects that may lie in the same memory end. -/
def kill : List Nat → M Unit
  | [] => M.ret ()
  | o :: l => M.bnd (touch o fun _ => some ((), some .dead)) fun _ => kill l

def putRow (lo : Nat) (vs cs : List Value) (esz : Nat) : Option (List Nat × Option AObj) := match putAt lo vs cs, vs.all oneCell with
  | some cs', true => some ([], some (.cells cs' true [] esz))
  | _, _ => none

/-- Write cells of a row that nothing older shares; else tell what does. -/
def wrFirst (lo : Nat) (vs : List Value) : AObj → Option (List Nat × Option AObj)
  | .cells cs true [] esz => putRow lo vs cs esz
  | .cells _ true old _ => some (old, none)
  | _ => none
def wrThen (lo : Nat) (vs : List Value) : AObj → Option (List Nat × Option AObj)
  | .cells cs true _ esz => putRow lo vs cs esz
  | _ => none

/-- Write cells. -/
def wrRow (b lo : Nat) (vs : List Value) : M Unit := M.bnd (touch b (wrFirst lo vs)) fun old => match old with
  | [] => M.ret ()
  | o :: l => M.bnd (kill (o :: l)) fun _ => M.bnd (touch b (wrThen lo vs)) fun _ => M.ret ()

def newObj (o : AObj) : M Nat
  | ⟨n, H, lim, log⟩ => force n fun n => some (n, ⟨n + 1, H.set n o, lim, log⟩)

def ptr (b i : Nat) : Value := .pointer (some ⟨b, i, none⟩)

/-- A row of cells of one's own, of elements of the size esz. -/
def newRow (cs : List Value) (old : List Nat) (esz : Nat) : M Nat := match cs.all oneCell with
  | true => newObj (.cells cs true old esz)
  | false => M.fail

/-- The cells of a value. -/
def cellsOf : Value → List Value
  | .agg cs => cs.toList
  | v => [v]

def addrOf : Value → Option (Nat × Nat)
  | .pointer (some ⟨b, i, none⟩) => some (b, i)
  | _ => none

section
variable (P : Program)
def sizeOf' (t : TypeId) : Option Nat := (P.info? t).map (·.size)
def isAgg' (t : TypeId) : Option Bool := (P.underlying t).map fun | .struct _ | .array _ _ => true | _ => false
def zero' (t : TypeId) : Option Value := match P.types[t]? with
  | some i => i.zero
  | none => none

def loadV (t : TypeId) (b i : Nat) : M Value := match isAgg' P t with
  | some true => match sizeOf' P t with
    | some k => M.bnd (rdRow b i k) fun l => M.ret (.agg l.toArray)
    | none => M.fail
  | some false => rdCell b i
  | none => M.fail

def storeV (t : TypeId) (b i : Nat) (v : Value) : M Unit := match sizeOf' P t with
  | some k => match Nat.beq (cellsOf v).length k with
    | true => wrRow b i (cellsOf v)
    | false => M.fail
  | none => M.fail

def partV (t : TypeId) (cs : List Value) (off : Nat) : Option Value := match isAgg' P t with
  | some true => match sizeOf' P t with
    | some k => match rowOf cs off k with
      | some l => some (.agg l.toArray)
      | none => none
    | none => none
  | some false => nth cs off
  | none => none

def fillA (place : Nat → Option (Nat × Nat)) : List Value → List (Nat × Value) → Option (List Value)
  | cells, [] => some cells
  | cells, (i, v) :: rest => match place i with
    | none => none
    | some (off, size) => match Nat.beq (cellsOf v).length size with
      | true => match putAt off (cellsOf v) cells with
        | some cells' => fillA place cells' rest
        | none => none
      | false => none

def mkInt (k : IntKind) (n : Int) : Option Value := forceI n fun n => some (.int k n)

/-- Equality of two values at a type, where it asks no memory. -/
def eqV : Nat → TypeId → Value → Value → Option Bool
  | 0, _, _, _ => none
  | d + 1, t, x, y => match P.underlying t, x, y with
    | some .bool, .bool a, .bool b => some (a == b)
    | some (.int _), .int k a, .int k' b => if k = k' then some (a == b) else none
    | some .string, .string a, .string b => some (a == b)
    | some (.pointer _), .pointer none, .pointer b => some b.isNone
    | some (.pointer _), .pointer (some _), .pointer none => some false
    | some (.interface _), .nilIface, .nilIface => some true
    | some (.interface _), .nilIface, .iface _ _ => some false
    | some (.interface _), .iface _ _, .nilIface => some false
    | some (.struct fields), .agg xs, .agg ys => match P.stoodInHeld t with
      | true => none
      | false => eqFields (eqV d) fields.toList xs.toList ys.toList
    | some (.slice _), .slice none _ _, .slice b _ _ => some b.isNone
    | some (.slice _), .slice (some _) _ _, .slice none _ _ => some false
    | some (.map _ _), .map none, .map b => some b.isNone
    | some (.map _ _), .map (some _), .map none => some false
    | some (.func _ _ _), .nilFunc, .nilFunc => some true
    | some (.func _ _ _), .nilFunc, .func _ _ _ => some false
    | some (.func _ _ _), .func _ _ _, .nilFunc => some false
    | _, _, _ => none
where
  eqFields (eq : TypeId → Value → Value → Option Bool) : List Field → List Value → List Value → Option Bool
    | [], _, _ => some true
    | f :: fs, xs, ys => match decide (f.name ≠ "_") with
      | true => match partV P f.type xs f.offset, partV P f.type ys f.offset with
        | some x, some y => match eq f.type x y with
          | some true => eqFields eq fs xs ys
          | some false => some false
          | none => none
        | _, _ => none
      | false => eqFields eq fs xs ys
end
end Go.Shade

/- The abstract evaluator, part 2: operations. Definitions alone. -/
namespace Go.Shade

structure Fr where
  tmps : Tr Value
  nt : Nat
  defs : List (FuncId × List Value)
  pan : Option Value
  recd : Bool

def undefV : Value := .tuple #[]
def tmpOf (T : Tr Value) (t : Nat) : Value := match T.get t with | some v => v | none => undefV
def evOpd (T : Tr Value) : Operand → Value
  | .tmp t => tmpOf T t
  | .const v => v
  | .global g => ptr g 0
  | .func f => .func (.func f) #[] #[]

/-- An address that is known only not to be nil. -/
def voidA : Addr := ⟨0, 0, some 0⟩

/-- What is known of a slice's capacity: a bound from below, and whether it is that; and where it isn't, the size of an element. -/
def capOf (a : Option Addr) (code : Nat) : Nat × Bool := match a with
  | none => (0, true)
  | some _ => match Nat.beq (code % 2) 1 with
    | true => (code / 2, true)
    | false => (code / 2 / 65536, false)
def eszOf (code : Nat) : Nat := code / 2 % 65536
def codeI (c k : Nat) : Nat := 2 * (c * 65536 + k)

def nat? : Value → Option Nat
  | .int _ (.ofNat n) => some n
  | _ => none
def natO : Option Value → Option (Option Nat)
  | none => some none
  | some v => match nat? v with
    | some n => some (some n)
    | none => none

def addA : Addr → Nat → Addr
  | ⟨b, i, none⟩, n => force (i + n) fun j => ⟨b, j, none⟩
  | a, _ => a
def addO (a : Option Addr) (n : Nat) : Option Addr := match a with
  | none => none
  | some a => some (addA a n)

def mkSlice (a : Option Addr) (len code : Nat) : Value := force len fun len => force code fun code => .slice a len code

/-- x[l:h:m], x[l:h] of a slice of elements of k cells. -/
def sliceMax (k : Nat) (a : Option Addr) (c l h m : Nat) : Option Value :=
  match Nat.ble m c && Nat.ble h m && Nat.ble l h with
  | true => some (mkSlice (match Nat.beq m l with | true => a | false => addO a (l * k)) (h - l) (2 * (m - l) + 1))
  | false => none
def sliceTo (k : Nat) (a : Option Addr) (c : Nat) (ex : Bool) (code l h : Nat) : Option Value :=
  match Nat.ble h c && Nat.ble l h with
  | true => match ex with
    | true => some (mkSlice (match Nat.beq c l with | true => a | false => addO a (l * k)) (h - l) (2 * (c - l) + 1))
    | false => match Nat.blt l c with
      | true => match Nat.beq (eszOf code) k with
        | true => some (mkSlice (addO a (l * k)) (h - l) (codeI (c - l) k))
        | false => none
      | false => some (.slice (some voidA) 0 0)
  | false => none
def sliceV (k : Nat) (a : Option Addr) (len code : Nat) (lo hi mx : Option Nat) : Option Value :=
  match capOf a code with
  | (c, ex) => match mx, hi with
    | some m, some h => sliceMax k a c (lo.getD 0) h m
    | none, hi => sliceTo k a c ex code (lo.getD 0) (hi.getD len)
    | _, _ => none

def intOp (op : BinOp) (k : IntKind) (a b : Int) : Option Value :=
  match op with
  | .add => mkInt k (k.wrap (a + b))
  | .sub => mkInt k (k.wrap (a - b))
  | .mul => mkInt k (k.wrap (a * b))
  | .quo => match decide (b = 0) with | true => none | false => mkInt k (k.wrap (a.tdiv b))
  | .rem => match decide (b = 0) with | true => none | false => mkInt k (a.tmod b)
  | .and => mkInt k (k.wrap (BitVec.ofInt k.bits a &&& BitVec.ofInt k.bits b).toNat)
  | .or => mkInt k (k.wrap (BitVec.ofInt k.bits a ||| BitVec.ofInt k.bits b).toNat)
  | .xor => mkInt k (k.wrap (BitVec.ofInt k.bits a ^^^ BitVec.ofInt k.bits b).toNat)
  | .andNot => mkInt k (k.wrap (BitVec.ofInt k.bits a &&& ~~~BitVec.ofInt k.bits b).toNat)
  | .eql => some (.bool (a == b))
  | .neq => some (.bool (a != b))
  | .lss => some (.bool (a < b))
  | .leq => some (.bool (a ≤ b))
  | .gtr => some (.bool (a > b))
  | .geq => some (.bool (a ≥ b))
  | _ => none

def shiftOp (left : Bool) (k : IntKind) (a b : Int) : Option Value := match decide (b < 0) with
  | true => none
  | false => match left with
    | true => mkInt k (k.wrap (a * 2 ^ (min b.toNat k.bits)))
    | false => mkInt k (a.fdiv (2 ^ (min b.toNat k.bits)))

def strOp (op : BinOp) (a b : ByteArray) : Option Value := match op with
  | .add => match decide (((a.size + b.size : Nat) : Int) > IntKind.i64.max) with
    | true => none
    | false => some (.string (a ++ b))
  | .eql => some (.bool (a.toList == b.toList))
  | .neq => some (.bool !(a.toList == b.toList))
  | _ => none

def unV (op : UnOp) (x : Value) : Option Value :=
  match op, x with
  | .neg, .int k n => mkInt k (k.wrap (0 - n))
  | .xor, .int k n => mkInt k (k.wrap (BitVec.ofInt k.bits (if k.signed then -1 else k.max) ^^^ BitVec.ofInt k.bits n).toNat)
  | .not, .bool b => some (.bool !b)
  | _, _ => none

def bytesOfCells : List Value → Option (List UInt8)
  | [] => some []
  | .int .u8 n :: l => match bytesOfCells l with | some bs => some (UInt8.ofNat n.toNat :: bs) | none => none
  | _ => none
def runesOfCells : List Value → Option ByteArray
  | [] => some ByteArray.empty
  | .int .i32 n :: l => match runesOfCells l with | some bs => some (Utf8.encode n ++ bs) | none => none
  | _ => none
def cellsOfBytes (l : List UInt8) : List Value := l.map fun b => .int .u8 b.toNat

def rdSlice (k : Nat) (x : Value) (n : Nat) : M (List Value) := match x with
  | .slice (some ⟨b, i, none⟩) _ _ => rdRow b i (n * k)
  | .slice _ _ _ => match Nat.beq n 0 with | true => M.ret [] | false => M.fail
  | .string s => match takeO n s.data.toList with
    | some l => M.ret (cellsOfBytes l)
    | none => M.fail
  | _ => M.fail

def lenV : Value → Option Nat
  | .slice _ n _ => some n
  | .string s => some s.size
  | _ => none

/-- A row that an append or a conversion made: a capacity of its own. -/
def grown (cs : List Value) (len k : Nat) (old : List Nat) : M Value := match Nat.blt k 65536 with
  | true => M.bnd (newRow cs old k) fun b => M.ret (mkSlice (some ⟨b, 0, none⟩) len (codeI len k))
  | false => M.fail

/-- A row of one's own is marked as a string's. -/
def ownRow (b : Nat) : M Unit := touch b fun x => match x with
  | .cells _ true _ _ => some ((), none)
  | _ => none

section
variable (P : Program)

def guardV (t : TypeId) (cst : Bool) : Value → Value → Bool
  | .nilIface, .nilIface => cst
  | .agg _, .agg _ => !P.eqGuardType P.depth t
  | _, _ => true

def binV (op : BinOp) (t : TypeId) (cst : Bool) (x y : Value) : Option Value :=
  match x, y with
  | .int k a, .int k' b => match op with
    | .shl => shiftOp true k a b
    | .shr => shiftOp false k a b
    | op => match decide (k = k') with
      | true => intOp op k a b
      | false => none
  | .string a, .string b => strOp op a b
  | .float _ _, _ => none
  | .complex _ _ _, _ => none
  | x, y => match op with
    | .eql => match guardV P t cst x y with
      | true => match eqV P 100 t x y with
        | some b => some (.bool b)
        | none => none
      | false => none
    | .neq => match guardV P t cst x y with
      | true => match eqV P 100 t x y with
        | some b => some (.bool !b)
        | none => none
      | false => none
    | _ => none

def convInt (dst : TypeId) (n : Int) : Option Value := match P.underlying dst with
  | some (.int k) => mkInt k (k.wrap n)
  | some .string => some (.string (Utf8.encode n))
  | _ => none
def convStr (dst : TypeId) (s : ByteArray) : M Value := match P.underlying dst with
  | some .string => M.ret (.string s)
  | some (.slice e) => match P.underlying e with
    | some (.int .u8) => grown (cellsOfBytes s.data.toList) s.size 1 []
    | some (.int .i32) => match (Conv.runesFrom s s.size 0 #[]).toList with
      | l => grown l l.length 1 []
    | _ => M.fail
  | _ => M.fail
def convCells (e : TypeId) (l : List Value) : Option Value := match P.underlying e with
  | some (.int .u8) => match bytesOfCells l with
    | some bs => some (.string ⟨bs.toArray⟩)
    | none => none
  | some (.int .i32) => match runesOfCells l with
    | some s => some (.string s)
    | none => none
  | _ => none
def convRow (src dst e : TypeId) (a : Option Addr) (n c : Nat) : M Value := match Nat.beq src dst, P.underlying e, a with
  | true, some (.int .u8), some ⟨b, i, none⟩ => M.bnd (ownRow b) fun _ => M.ret (.slice (some ⟨b, i, none⟩) n c)
  | _, _, _ => M.fail
def convSlice (src dst : TypeId) (a : Option Addr) (n c : Nat) : M Value := match P.underlying src, P.underlying dst with
  | some (.slice e), some .string => M.bnd (rdSlice 1 (.slice a n c) n) fun l => M.opt (convCells P e l)
  | some (.slice _), some (.slice e) => convRow P src dst e a n c
  | _, _ => M.fail
def convV (src dst : TypeId) (x : Value) : M Value := match x with
  | .int _ n => match P.underlying src with
    | some (.int _) => M.opt (convInt P dst n)
    | _ => M.fail
  | .string s => match P.underlying src with
    | some .string => convStr P dst s
    | _ => M.fail
  | .slice a n c => convSlice P src dst a n c
  | _ => M.fail

def zeros (z : List Value) : Nat → List Value
  | 0 => []
  | n + 1 => z ++ zeros z n

/-- An own row that may be grown in place or copied: from here on it is read alone. What may lie in its memory. -/
def retire (k b upto : Nat) : M (List Nat) := touch b fun x => match x with
  | .cells cs true olds esz => match Nat.beq esz k && Nat.beq cs.length upto with
    | true => some (olds, some (.cells cs false olds esz))
    | false => none
  | _ => none

def appIn (k : Nat) (a : Option Addr) (sLen n code : Nat) (new : List Value) : M Value := match new, a with
  | [], _ => match Nat.beq n 0 with
    | true => M.ret (.slice a sLen code)
    | false => M.fail
  | new, some ⟨b, i, none⟩ => M.bnd (wrRow b (i + sLen * k) new) fun _ => M.ret (mkSlice a (sLen + n) code)
  | _, _ => M.fail
def appOut (k : Nat) (a : Option Addr) (sLen code n : Nat) (ex : Bool) (new old : List Value) : M Value := match ex, a with
  | true, _ => grown (old ++ new) (sLen + n) k []
  | false, some ⟨b, i, none⟩ => match Nat.beq (eszOf code) k with
    | true => M.bnd (retire k b (i + sLen * k)) fun olds => grown (old ++ new) (sLen + n) k (b :: olds)
    | false => M.fail
  | _, _ => M.fail
def appRow (k bytes : Nat) (a : Option Addr) (sLen code n : Nat) (new : List Value) : M Value := match capOf a code with
  | (c, ex) => match Nat.ble (sLen + n) c with
    | true => appIn k a sLen n code new
    | false => match Nat.ble ((sLen + n) * bytes) (2 ^ 40) && Nat.ble 1 bytes && Nat.ble 1 k with
      | true => M.bnd (rdSlice k (.slice a sLen code) sLen) fun old => appOut k a sLen code n ex new old
      | false => M.fail
def strK (k : Nat) : Value → Bool
  | .string _ => Nat.beq k 1
  | _ => true
def appendV (t : TypeId) (s x : Value) : M Value := match P.underlying t, s, lenV x with
  | some (.slice e), .slice a sLen code, some n => match P.info? e, zero' P e with
    | some info, some _ => match strK info.size x with
      | true => M.bnd (rdSlice info.size x n) fun new => appRow info.size info.bytes a sLen code n new
      | false => M.fail
    | _, _ => M.fail
  | _, _, _ => M.fail

def copyRow (a : Option Addr) (n : Nat) (cs : List Value) : M Value := match cs, a with
  | [], _ => M.opt (mkInt .i64 n)
  | cs, some ⟨b, i, none⟩ => M.bnd (wrRow b i cs) fun _ => M.opt (mkInt .i64 n)
  | _, _ => M.fail
def copyV (t : TypeId) (d x : Value) : M Value := match P.underlying t, d, lenV x with
  | some (.slice e), .slice a dLen _, some m => match sizeOf' P e with
    | some k => M.bnd (rdSlice k x (Nat.min m dLen)) fun cs => copyRow a (Nat.min m dLen) cs
    | none => M.fail
  | _, _, _ => M.fail

def findK (d : TypeDesc) (k : Value) : List (Value × Value) → Nat → Option (Option (Nat × Value))
  | [], _ => some none
  | e :: es, i => match Instr.sameNow d k e.1 with
    | some true => some (some (i, e.2))
    | some false => findK d k es (i + 1)
    | none => none
def getMap (r : Nat) : M (List (Value × Value)) := touch r fun x => match x with
  | .map es => some (es, none)
  | _ => none
def setMap (r : Nat) (es : List (Value × Value)) : M Unit := touch r fun x => match x with
  | .map _ => some ((), some (.map es))
  | _ => none

def lenB (t : TypeId) (x : Value) : M Value := match P.underlying t, x with
  | some .string, .string s => M.opt (mkInt .i64 s.size)
  | some (.array n _), _ => M.opt (mkInt .i64 n)
  | some (.slice _), .slice _ n _ => M.opt (mkInt .i64 n)
  | some (.map _ _), .map none => M.ret (.int .i64 0)
  | some (.map _ _), .map (some r) => M.bnd (getMap r) fun es => M.opt (mkInt .i64 es.length)
  | _, _ => M.fail
def clearB (t : TypeId) (x : Value) : M Value := match P.underlying t, x with
  | some (.map _ _), .map none => M.ret undefV
  | some (.map _ _), .map (some r) => M.bnd (setMap r []) fun _ => M.ret undefV
  | some (.slice _), .slice none _ _ => M.ret undefV
  | some (.slice _), .slice _ 0 _ => M.ret undefV
  | some (.slice e), .slice (some ⟨b, i, none⟩) n _ => match zero' P e with
    | some z => M.bnd (wrRow b i (zeros (cellsOf z) n)) fun _ => M.ret undefV
    | none => M.fail
  | _, _ => M.fail
def max2 : Value → Value → Option Value
  | .int k a, .int _ b => some (.int k (match decide (b > a) with | true => b | false => a))
  | _, _ => none
def min2 : Value → Value → Option Value
  | .int k a, .int _ b => some (.int k (match decide (b < a) with | true => b | false => a))
  | _, _ => none
def foldV (f : Value → Value → Option Value) : Value → List Value → Option Value
  | x, [] => some x
  | x, y :: l => match f x y with
    | some z => foldV f z l
    | none => none
def appB (t u : TypeId) (s x : Value) : M Value := match P.underlying u with
  | some (.slice _) => appendV P t s x
  | some .string => appendV P t s x
  | _ => M.fail
def builtinV (b : Builtin) (ts : List TypeId) (args : List Value) : M Value := match b, ts, args with
  | .append, t :: u :: _, [s, x] => appB P t u s x
  | .copy, t :: _, [d, x] => copyV P t d x
  | .len, t :: _, [x] => lenB P t x
  | .max, _, x :: rest => M.opt (foldV max2 x rest)
  | .min, _, x :: rest => M.opt (foldV min2 x rest)
  | .clear, t :: _, [x] => clearB P t x
  | _, _, _ => M.fail

def callee (f : Value) (args : List Value) : Option (FuncId × List Value) := match f with
  | .func (.func f) first captured => some (f, first.toList ++ args ++ captured.toList)
  | _ => none

def nilDeref : Value := .iface P.rt.errorString (strVal "invalid memory address or nil pointer dereference")

def isConst' : Operand → Bool
  | .const _ => true
  | _ => false

/-- What an operation comes to. -/
inductive Res where
  | val (v : Value)
  | enter (f : FuncId) (args : List Value)
  | panic (v : Value)
  | defer (f : FuncId) (args : List Value)
  | recover

def asVal (x : M Value) : M Res := M.bnd x fun v => M.ret (.val v)

def opPick (c a b : Value) : M Res := match c with
  | .bool true => M.ret (.val a)
  | .bool false => M.ret (.val b)
  | _ => M.fail
def ptrTo (x : M Nat) : M Res := M.bnd x fun b => M.ret (.val (ptr b 0))
def opAlloc (t : TypeId) : M Res := match zero' P t with
  | some z => ptrTo (newRow (cellsOf z) [] 0)
  | none => M.fail
def opBox (v : Value) : M Res := ptrTo (newRow (cellsOf v) [] 0)
def fieldPls : List Field → Option (List (Nat × Nat))
  | [] => some []
  | f :: fs => match sizeOf' P f.type, fieldPls fs with
    | some k, some l => some ((f.offset, k) :: l)
    | _, _ => none
def aggOf (o : Option (List Value)) : M Res := match o with
  | some cs => M.ret (.val (.agg cs.toArray))
  | none => M.fail
def opBuild (t : TypeId) (ps : List (Nat × Value)) : M Res := match zero' P t with
  | some z => match P.underlying t with
    | some (.struct fields) => match fieldPls P fields.toList with
      | some l => aggOf (fillA (nth l) (cellsOf z) ps)
      | none => M.fail
    | some (.array _ e) => match sizeOf' P e with
      | some k => aggOf (fillA (fun i => some (i * k, k)) (cellsOf z) ps)
      | none => M.fail
    | _ => M.fail
  | none => M.fail
def opBuildSlice (t : TypeId) (len : Nat) (ps : List (Nat × Value)) : M Res := match P.underlying t with
  | some (.slice e) => match sizeOf' P e, zero' P e with
    | some k, some z => match Nat.ble (len * k) (2 ^ 24), fillA (fun i => some (i * k, k)) (zeros (cellsOf z) len) ps with
      | true, some cs => M.bnd (newRow cs [] 0) fun b => M.ret (.val (.slice (some ⟨b, 0, none⟩) len (2 * len + 1)))
      | _, _ => M.fail
    | _, _ => M.fail
  | _ => M.fail
def opLoad (t : TypeId) (a : Value) : M Res := match addrOf a with
  | some (b, i) => asVal (loadV P t b i)
  | none => M.fail
def opStore (t : TypeId) (a x : Value) : M Res := match addrOf a with
  | some (b, i) => M.bnd (storeV P t b i x) fun _ => M.ret (.val undefV)
  | none => M.fail
def opNilCheck (x : Value) : M Res := match x with
  | .pointer none => M.ret (.panic (nilDeref P))
  | .nilIface => M.ret (.panic (nilDeref P))
  | .nilFunc => M.ret (.panic (nilDeref P))
  | .func (.method _) _ _ => M.fail
  | x => M.ret (.val x)
def optVal (o : Option Value) : M Res := match o with
  | some v => M.ret (.val v)
  | none => M.fail
def opIface (t : TypeId) (x : Value) : M Res := match P.underlying t with
  | some (.interface _) => M.fail
  | some _ => M.ret (.val (.iface t x))
  | none => M.fail
def opMakeSlice (t : TypeId) (l c : Value) : M Res := match P.underlying t, nat? l, nat? c with
  | some (.slice e), some l, some c => match P.info? e, zero' P e with
    | some info, some z => match Nat.ble l c && Nat.ble (c * info.bytes) (2 ^ 40) && Nat.ble c (2 ^ 40) with
      | true => M.bnd (newRow (zeros (cellsOf z) c) [] info.size) fun b => M.ret (.val (mkSlice (some ⟨b, 0, none⟩) l (2 * c + 1)))
      | false => M.fail
    | _, _ => M.fail
  | _, _, _ => M.fail
def opMakeMap : M Res := M.bnd (newObj (.map [])) fun r => M.ret (.val (.map (some r)))
def sliceStr (s : ByteArray) (l h : Nat) : Option Value := match Nat.ble h s.size && Nat.ble l h with
  | true => some (.string (s.extract l h))
  | false => none
def sliceArr (n e : Nat) (x : Value) (lo hi mx : Option Nat) : Option Value := match x, sizeOf' P e with
  | .pointer (some a), some k => sliceV k (some a) n (2 * n + 1) lo hi mx
  | _, _ => none
def sliceAny (t : TypeId) (x : Value) (lo hi mx : Option Nat) : Option Value := match P.underlying t, x with
  | some .string, .string s => match mx with
    | none => sliceStr s (lo.getD 0) (hi.getD s.size)
    | some _ => none
  | some (.slice e), .slice a n c => match sizeOf' P e with
    | some k => sliceV k a n c lo hi mx
    | none => none
  | some (.array n e), x => sliceArr P n e x lo hi mx
  | some (.pointer arr), x => match P.underlying arr with
    | some (.array n e) => sliceArr P n e x lo hi mx
    | _ => none
  | _, _ => none
def opSlice (t : TypeId) (x : Value) (lo hi mx : Option Value) : M Res := match natO lo, natO hi, natO mx with
  | some lo, some hi, some mx => optVal (sliceAny P t x lo hi mx)
  | _, _, _ => M.fail
def opFieldAddr (t : TypeId) (x : Value) (f : Nat) : M Res := match P.underlying t, addrOf x with
  | some (.struct fields), some (b, i) => match fields[f]? with
    | some fd => match sizeOf' P fd.type with
      | some (_ + 1) => force (i + fd.offset) fun j => M.ret (.val (ptr b j))
      | _ => M.fail
    | none => M.fail
  | _, _ => M.fail
def opField (t : TypeId) (x : Value) (f : Nat) : M Res := match P.underlying t, x with
  | some (.struct fields), .agg cs => match fields[f]? with
    | some fd => optVal (partV P fd.type cs.toList fd.offset)
    | none => M.fail
  | _, _ => M.fail
def ptrAt (b i n e j : Nat) : M Res := match sizeOf' P e, Nat.blt j n with
  | some k, true => force (i + j * k) fun o => M.ret (.val (ptr b o))
  | _, _ => M.fail
def opIndexAddr (t : TypeId) (x ix : Value) : M Res := match P.underlying t, x, nat? ix with
  | some (.array n e), .pointer (some ⟨b, i, none⟩), some j => ptrAt P b i n e j
  | some (.slice e), .slice (some ⟨b, i, none⟩) n _, some j => ptrAt P b i n e j
  | _, _, _ => M.fail
def opIndex (t : TypeId) (x ix : Value) : M Res := match P.underlying t, x, nat? ix with
  | some (.array n e), .agg cs, some j => match sizeOf' P e, Nat.blt j n with
    | some k, true => optVal (partV P e cs.toList (j * k))
    | _, _ => M.fail
  | some .string, .string s, some j => match nth s.data.toList j with
    | some b => M.ret (.val (.int .u8 b.toNat))
    | none => M.fail
  | _, _, _ => M.fail
def plainKey : TypeDesc → Bool
  | .int _ => true
  | .string => true
  | .bool => true
  | _ => false
def okPair (ok : Bool) (y : Value) : Value := match ok with
  | true => .tuple #[y, .bool true]
  | false => y
def notPair (ok : Bool) (y : Value) : Value := match ok with
  | true => .tuple #[y, .bool false]
  | false => y
def found (et : TypeId) (ok : Bool) (r : Option (Nat × Value)) : M Res := match r, zero' P et with
  | some (_, x), _ => M.ret (.val (okPair ok x))
  | none, some z => M.ret (.val (notPair ok z))
  | none, none => M.fail
def lookIn (kt et : TypeId) (k : Value) (ok : Bool) (es : List (Value × Value)) : M Res := match P.underlying kt with
  | some d => match plainKey d, findK d k es 0 with
    | true, some r => found P et ok r
    | _, _ => M.fail
  | none => M.fail
def opLookup (t : TypeId) (x k : Value) (ok : Bool) : M Res := match P.underlying t, x with
  | some (.map kt et), .map none => lookIn P kt et k ok []
  | some (.map kt et), .map (some r) => M.bnd (getMap r) fun es => lookIn P kt et k ok es
  | _, _ => M.fail
def storeIn (kt : TypeId) (r : Nat) (k x : Value) (es : List (Value × Value)) : M Res := match P.underlying kt with
  | some d => match plainKey d, findK d k es 0 with
    | true, some (some (i, _)) => M.bnd (setMap r (es.set i (k, x))) fun _ => M.ret (.val undefV)
    | true, some none => M.bnd (setMap r (es ++ [(k, x)])) fun _ => M.ret (.val undefV)
    | _, _ => M.fail
  | none => M.fail
def opMapUpdate (t : TypeId) (m k x : Value) : M Res := match P.underlying t, m with
  | some (.map kt _), .map (some r) => M.bnd (getMap r) fun es => storeIn P kt r k x es
  | _, _ => M.fail
def opRange (t : TypeId) (x : Value) : M Res := match P.underlying t, x with
  | some .string, .string s => ptrTo (newObj (.iter s 0))
  | _, _ => M.fail
def nextIn : AObj → Option (Res × Option AObj)
  | .iter s pos => match Nat.blt pos s.size with
    | true => match Utf8.decode s pos with
      | (c, width) => force c fun c => force (pos + width) fun pos' => some (.val (.tuple #[.bool true, .int .i64 pos, .int .i32 c]), some (.iter s pos'))
    | false => some (.val (.tuple #[.bool false]), none)
  | _ => none
def nextAt (r : Nat) : M Res := touch r nextIn
def opNext (it : Value) (str : Bool) : M Res := match str, addrOf it with
  | true, some (r, 0) => nextAt r
  | _, _ => M.fail
def notThat (asserted : TypeId) (ok : Bool) : M Res := match ok, zero' P asserted with
  | true, some z => M.ret (.val (.tuple #[z, .bool false]))
  | _, _ => M.fail
def assertTo (asserted : TypeId) (ok : Bool) (x : Value) : M Res := match x with
  | .iface t y => match Nat.beq t asserted with
    | true => M.ret (.val (okPair ok y))
    | false => notThat P asserted ok
  | .nilIface => notThat P asserted ok
  | _ => M.fail
def opAssert (x : Value) (asserted : TypeId) (ok : Bool) : M Res := match P.underlying asserted with
  | some (.interface _) => M.fail
  | some _ => assertTo P asserted ok x
  | none => M.fail
def opExtract (x : Value) (i : Nat) : M Res := match x with
  | .tuple vs => optVal (nth vs.toList i)
  | _ => M.fail
def opPanic (x : Value) : M Res := match x with
  | .iface t y => M.ret (.panic (.iface t y))
  | _ => M.fail
def entered (o : Option (FuncId × List Value)) : M Res := match o with
  | some (f, args) => M.ret (.enter f args)
  | none => M.fail
def deferred (o : Option (FuncId × List Value)) : M Res := match o with
  | some (f, args) => M.ret (.defer f args)
  | none => M.fail
def opBuiltin (b : Builtin) (ts : List TypeId) (args : List Value) : M Res := match b, args with
  | .recover, _ => M.ret .recover
  | .panic, [x] => opPanic x
  | b, args => asVal (builtinV P b ts args)
def opCall (ρ : Operand → Value) (c : Call) : M Res := match c.callee with
  | .value f => entered (callee (ρ f) (c.args.toList.map ρ))
  | .builtin b => opBuiltin P b c.argTypes.toList (c.args.toList.map ρ)
  | _ => M.fail
def opDefer (ρ : Operand → Value) (c : Call) : M Res := match c.callee with
  | .value f => deferred (callee (ρ f) (c.args.toList.map ρ))
  | _ => M.fail

def evOp (ρ : Operand → Value) : Op → M Res
  | .move x => M.ret (.val (ρ x))
  | .assign x => M.ret (.val (ρ x))
  | .pick c a b => opPick (ρ c) (ρ a) (ρ b)
  | .alloc t => opAlloc P t
  | .box _ x => opBox (ρ x)
  | .build t parts => opBuild P t (parts.toList.map fun p => (p.1, ρ p.2))
  | .buildSlice t len parts => opBuildSlice P t len (parts.toList.map fun p => (p.1, ρ p.2))
  | .load t a => opLoad P t (ρ a)
  | .store t a x => opStore P t (ρ a) (ρ x)
  | .nilCheck x => opNilCheck P (ρ x)
  | .binOp op t x y _ => optVal (binV P op t (isConst' x || isConst' y) (ρ x) (ρ y))
  | .unOp op _ x => optVal (unV op (ρ x))
  | .convert s d x => asVal (convV P s d (ρ x))
  | .makeInterface t x => opIface P t (ρ x)
  | .makeFunc fn first captured => M.ret (.val (.func fn (first.map ρ) (captured.map ρ)))
  | .makeSlice t l c => opMakeSlice P t (ρ l) (ρ c)
  | .makeMap _ none => opMakeMap
  | .slice t x lo hi mx => opSlice P t (ρ x) (lo.map ρ) (hi.map ρ) (mx.map ρ)
  | .fieldAddr t x f => opFieldAddr P t (ρ x) f
  | .field t x f => opField P t (ρ x) f
  | .indexAddr t x ix => opIndexAddr P t (ρ x) (ρ ix)
  | .index t x ix => opIndex P t (ρ x) (ρ ix)
  | .lookup t x k ok => opLookup P t (ρ x) (ρ k) ok
  | .mapUpdate t m k x => opMapUpdate P t (ρ m) (ρ k) (ρ x)
  | .range t x => opRange P t (ρ x)
  | .next it str => opNext (ρ it) str
  | .typeAssert x _ asserted ok => opAssert P (ρ x) asserted ok
  | .extract x i => opExtract (ρ x) i
  | .panic x => opPanic (ρ x)
  | .defer c => opDefer ρ c
  | .call c => opCall P ρ c
  | _ => M.fail
end
end Go.Shade

/- The abstract evaluator, part 3: regions, code, calls. Definitions alone. -/
namespace Go.Shade

/-- What a call comes to; and whether it recovered the panic that it saw. -/
inductive COut where
  | ret (v : Value) (recd : Bool)
  | panic (v : Value)

abbrev CallSem := FuncId → List Value → Option Value → M COut

inductive Out where
  | norm
  | exit (id : Nat)
  | ret
  | panic (v : Value)

abbrev Ran := Out × Fr

def Fr.put : Fr → Option Tmp → Value → Option Fr
  | fr, none, _ => some fr
  | ⟨T, nt, defs, pan, recd⟩, some d, v => match Nat.blt d nt with
    | true => some ⟨T.set d v, nt, defs, pan, recd⟩
    | false => none

/-- Is this value the bool that the guard asks? -/
def isBool (want : Bool) : Option Value → Bool
  | some (.bool b) => b == want
  | _ => false
def dstOf (ops : List Oper) (j : Nat) : Option Tmp := match nth ops j with
  | some o => o.dst
  | none => none
def wantedF (ops : List Oper) (g : Option (Nat × Bool)) (T : Tr Value) : Bool := match g with
  | none => true
  | some (j, want) => match dstOf ops j with
    | some d => isBool want (T.get d)
    | none => false

def normed (o : Option Fr) : M Ran := match o with
  | some fr => M.ret (.norm, fr)
  | none => M.fail

def seen (fr : Fr) (dst : Option Tmp) : M Ran := match fr with
  | ⟨T, nt, defs, some v, _⟩ => normed (Fr.put ⟨T, nt, defs, none, true⟩ dst v)
  | fr => normed (fr.put dst .nilIface)
def laidBy (fr : Fr) (dst : Option Tmp) (f : FuncId) (args : List Value) : M Ran := match fr with
  | ⟨T, nt, defs, pan, recd⟩ => normed (Fr.put ⟨T, nt, (f, args) :: defs, pan, recd⟩ dst undefV)
def called (fr : Fr) (dst : Option Tmp) : COut → M Ran
  | .ret v _ => normed (fr.put dst v)
  | .panic v => M.ret (.panic v, fr)

section
variable (P : Program)

/-- What an operation came to. -/
def after (call : CallSem) (dst : Option Tmp) (fr : Fr) : Res → M Ran
  | .val v => normed (fr.put dst v)
  | .enter f args => M.bnd (call f args none) (called fr dst)
  | .panic v => M.ret (.panic v, fr)
  | .defer f args => laidBy fr dst f args
  | .recover => seen fr dst

/-- One operation of a region in order. -/
def evOne (call : CallSem) (ops : List Oper) (o : Oper) (fr : Fr) : M Ran := match wantedF ops o.guard fr.tmps with
  | false => normed (fr.put o.dst undefV)
  | true => M.bnd (evOp P (evOpd fr.tmps) o.op) (after call o.dst fr)

def evOps (call : CallSem) (ops : List Oper) : List Oper → Fr → M Ran
  | [], fr => M.ret (.norm, fr)
  | o :: rest, fr => M.bnd (evOne P call ops o fr) fun r => match r with
    | (.norm, fr) => evOps call ops rest fr
    | r => M.ret r

def valOf (call : CallSem) : Res → M Value
  | .val v => M.ret v
  | .enter f args => M.bnd (call f args none) fun r => match r with
    | .ret v _ => M.ret v
    | .panic _ => M.fail
  | _ => M.fail

/-- One operation of a region that draws its order: the value that it leaves. -/
def evVal (call : CallSem) (ops : List Oper) (o : Oper) (fr : Fr) : M Value := match wantedF ops o.guard fr.tmps with
  | false => M.ret undefV
  | true => M.bnd (evOp P (evOpd fr.tmps) o.op) (valOf call)

structure Rec where
  n : Nat
  n' : Nat
  log : List Acc

def outer (lim : Nat) : List Acc → List Acc → List Acc
  | [], log => log
  | a :: l, log => match Nat.blt a.b lim with
    | true => a :: outer lim l log
    | false => outer lim l log

/-- A piece by itself: what it touched of what was there before it. -/
def sub {α : Type} (x : M α) : M (α × Rec)
  | ⟨n, H, lim, log⟩ => match x ⟨n, H, n, []⟩ with
    | some (a, ⟨n', H', _, log'⟩) => some ((a, ⟨n, n', log'⟩), ⟨n', H', lim, outer lim log' log⟩)
    | none => none
def putO (dst : Option Tmp) (fr : Fr) (v : Value) : M Fr := M.opt (fr.put dst v)

def evDraw (call : CallSem) (ops : List Oper) : List Oper → Fr → List Rec → M (Fr × List Rec)
  | [], fr, recs => M.ret (fr, recs)
  | o :: rest, fr, recs => M.bnd (sub (evVal P call ops o fr)) fun r => M.bnd (putO o.dst fr r.1) fun fr => evDraw call ops rest fr (r.2 :: recs)

def getN : M Nat
  | ⟨n, H, lim, log⟩ => some (n, ⟨n, H, lim, log⟩)

/-- Do two accesses part company? -/
def Acc.clash (a b : Acc) : Bool :=
  Nat.beq a.b b.b && (a.wr || b.wr)

/-- The later one touches what the earlier one made, or both touch one thing and one of them writes it. -/
def Rec.clash (i j : Rec) : Bool :=
  j.log.any fun b => (Nat.ble i.n b.b && Nat.blt b.b i.n') || i.log.any fun a => a.clash b

def quietRec (n0 : Nat) (r : Rec) : Bool := r.log.all fun a => !a.wr && Nat.blt a.b n0

/-- Which operations stand ahead of each, as bits (a list, the last one first). -/
def edgeBits (acc : List Nat) (i : Nat) : List Edge → Nat
  | [] => 0
  | e :: l => match Region.binds .any e with
    | true => (2 ^ e.on) ||| ((nth acc (i - 1 - e.on)).getD 0) ||| edgeBits acc i l
    | false => edgeBits acc i l
def aheadBits : List Oper → Nat → List Nat → List Nat
  | [], _, acc => acc
  | o :: l, i, acc => aheadBits l (i + 1) (edgeBits acc i o.after.toList :: acc)

/-- recs and bits: the last one first; i: the number of the head. -/
def clashOne (bj : Nat) (rj : Rec) : List Rec → Nat → Bool
  | [], _ => true
  | ri :: l, i => (bj.testBit i || !ri.clash rj) && clashOne bj rj l (i - 1)
def noClash : List Rec → List Nat → Nat → Bool
  | r :: recs, b :: bits, i => clashOne b r recs (i - 1) && noClash recs bits (i - 1)
  | _, _, _ => true

def drawn (ops : List Oper) (n0 : Nat) (recs : List Rec) : Bool := match recs.all (quietRec n0) with
  | true => true
  | false => noClash recs (aheadBits ops 0 []) (ops.length - 1)

def evDrawn (ops : List Oper) (n0 : Nat) (r : Fr × List Rec) : M Ran := match drawn ops n0 r.2 with
  | true => M.ret (.norm, r.1)
  | false => M.fail
def evRegion (call : CallSem) (ops : List Oper) (draw : Bool) (fr : Fr) : M Ran := match draw with
  | false => evOps P call ops ops fr
  | true => M.bnd getN fun n0 => M.bnd (evDraw P call ops ops fr []) (evDrawn ops n0)

def evLoop (body : Fr → M Ran) : Nat → Fr → M Ran
  | 0, _ => M.fail
  | k + 1, fr => M.bnd (body fr) fun r => match r with
    | (.norm, fr) => evLoop body k fr
    | r => M.ret r

def unblock (id : Nat) : Ran → M Ran
  | (.exit id', fr) => match Nat.beq id' id with
    | true => M.ret (.norm, fr)
    | false => M.ret (.exit id', fr)
  | r => M.ret r

def evC (call : CallSem) (lf : Nat) : Code → Fr → M Ran
  | .skip, fr => M.ret (.norm, fr)
  | .label _, fr => M.ret (.norm, fr)
  | .region _ ops draw, fr => evRegion P call ops.toList draw fr
  | .seq a b, fr => M.bnd (evC call lf a fr) fun r => match r with
    | (.norm, fr) => evC call lf b fr
    | r => M.ret r
  | .cond c a b, fr => match evOpd fr.tmps c with
    | .bool true => evC call lf a fr
    | .bool false => evC call lf b fr
    | _ => M.fail
  | .block id body, fr => M.bnd (evC call lf body fr) (unblock id)
  | .loop body, fr => evLoop (evC call lf body) lf fr
  | .scope body, fr => evC call lf body fr
  | .exit id, fr => M.ret (.exit id, fr)
  | .ret, fr => M.ret (.ret, fr)
  | _, _ => M.fail

def evResults (T : Tr Value) : List ResultVar → M (List Value)
  | [] => M.ret []
  | .tmp t :: l => M.bnd (evResults T l) fun r => M.ret (tmpOf T t :: r)
  | .cell a t :: l => match addrOf (tmpOf T a) with
    | some (b, i) => M.bnd (loadV P t b i) fun v => M.bnd (evResults T l) fun r => M.ret (v :: r)
    | none => M.fail

def tupled : List Value → Value
  | [v] => v
  | l => .tuple l.toArray

/-- The deferred calls, and what comes of the whole. -/
def evUnwind (call : CallSem) (res : List ResultVar) (T : Tr Value) (recd : Bool) : List (FuncId × List Value) → Option Value → M COut
  | [], none => M.bnd (evResults P T res) fun vs => M.ret (.ret (tupled vs) recd)
  | [], some v => M.ret (.panic v)
  | (f, args) :: ds, pan => M.bnd (call f args pan) fun r => match r with
    | .ret _ true => evUnwind call res T recd ds none
    | .ret _ false => evUnwind call res T recd ds pan
    | .panic _ => M.fail

def leave (call : CallSem) (res : List ResultVar) : Ran → M COut
  | (.norm, ⟨T, _, defs, _, recd⟩) => evUnwind P call res T recd defs none
  | (.ret, ⟨T, _, defs, _, recd⟩) => evUnwind P call res T recd defs none
  | (.panic v, ⟨T, _, defs, _, recd⟩) => evUnwind P call res T recd defs (some v)
  | _ => M.fail

def tmpsOf : List Value → Nat → Tr Value → Tr Value
  | [], _, t => t
  | v :: l, i, t => tmpsOf l (i + 1) (t.set i v)

def enterF (call : CallSem) (lf : Nat) (fn : Func) (args : List Value) (pan : Option Value) : M COut := match fn.body with
  | some c => M.bnd (evC P call lf c ⟨tmpsOf args 0 .nil, fn.ntmps, [], pan, false⟩) (leave P call fn.results.toList)
  | none => M.fail

def evF (lf : Nat) : Nat → CallSem
  | 0 => fun _ _ _ => M.fail
  | d + 1 => fun f args pan => match P.funcs[f]? with
    | some fn => enterF P (evF lf d) lf fn args pan
    | none => M.fail
end
end Go.Shade

/- The evaluator's trees and lists: what is read is what was written. -/
namespace Go.Shade

theorem Tr.getF_of_lt {α : Type} : ∀ (f g k : Nat) (t : Tr α), k < f → k < g → Tr.getF f t k = Tr.getF g t k
  | 0, _, _, _, h, _ => absurd h (Nat.not_lt_zero _)
  | _ + 1, 0, _, _, _, h => absurd h (Nat.not_lt_zero _)
  | f + 1, g + 1, k, .nil, _, _ => rfl
  | f + 1, g + 1, k, .node l v r, hf, hg => by
    simp only [Tr.getF]
    cases h0 : Nat.beq k 0 with
    | true => rfl
    | false =>
      have hk : k ≠ 0 := fun e => by subst e; simp at h0
      cases h1 : Nat.beq (k % 2) 1 with
      | true => exact Tr.getF_of_lt f g (k / 2) l (by omega) (by omega)
      | false => exact Tr.getF_of_lt f g (k / 2 - 1) r (by omega) (by omega)

theorem Tr.getF_setF_eq {α : Type} : ∀ (f k : Nat) (t : Tr α) (x : α), k < f → Tr.getF f (Tr.setF f t k x) k = some x
  | 0, _, _, _, h => absurd h (Nat.not_lt_zero _)
  | f + 1, k, .nil, x, hf => by
    simp only [Tr.setF]
    cases h0 : Nat.beq k 0 with
    | true => simp [Tr.getF, h0]
    | false =>
      have hk : k ≠ 0 := fun e => by subst e; simp at h0
      cases h1 : Nat.beq (k % 2) 1 with
      | true => simp only [Tr.getF, h0, h1]; exact Tr.getF_setF_eq f (k / 2) _ x (by omega)
      | false => simp only [Tr.getF, h0, h1]; exact Tr.getF_setF_eq f (k / 2 - 1) _ x (by omega)
  | f + 1, k, .node l v r, x, hf => by
    simp only [Tr.setF]
    cases h0 : Nat.beq k 0 with
    | true => simp [Tr.getF, h0]
    | false =>
      have hk : k ≠ 0 := fun e => by subst e; simp at h0
      cases h1 : Nat.beq (k % 2) 1 with
      | true => simp only [Tr.getF, h0, h1]; exact Tr.getF_setF_eq f (k / 2) _ x (by omega)
      | false => simp only [Tr.getF, h0, h1]; exact Tr.getF_setF_eq f (k / 2 - 1) _ x (by omega)

theorem Tr.getF_nil {α : Type} (f k : Nat) : Tr.getF f (.nil : Tr α) k = none := by cases f <;> rfl

theorem Tr.getF_setF_ne {α : Type} : ∀ (f g k j : Nat) (t : Tr α) (x : α), k < g → j < f → j ≠ k → Tr.getF f (Tr.setF g t k x) j = Tr.getF f t j
  | 0, _, _, _, _, _, _, h, _ => absurd h (Nat.not_lt_zero _)
  | _ + 1, 0, _, _, _, _, h, _, _ => absurd h (Nat.not_lt_zero _)
  | f + 1, g + 1, k, j, .nil, x, hk, hj, hne => by
    simp only [Tr.setF]
    cases h0 : Nat.beq k 0 with
    | true =>
      have hk0 : k = 0 := Nat.eq_of_beq_eq_true h0
      have hj0 : Nat.beq j 0 = false := by cases h : Nat.beq j 0 with | true => exact absurd (Nat.eq_of_beq_eq_true h) (by omega) | false => rfl
      cases h1 : Nat.beq (j % 2) 1 <;> simp [Tr.getF, hj0, h1, Tr.getF_nil]
    | false =>
      have hk0 : k ≠ 0 := fun e => by subst e; simp at h0
      cases h1 : Nat.beq (k % 2) 1 with
      | true =>
        have hk1 := Nat.eq_of_beq_eq_true h1
        simp only [Tr.getF]
        cases hj0 : Nat.beq j 0 with
        | true => rfl
        | false =>
          have hjn : j ≠ 0 := fun e => by subst e; simp at hj0
          cases hj1 : Nat.beq (j % 2) 1 with
          | true =>
            have := Nat.eq_of_beq_eq_true hj1
            simp only []
            rw [Tr.getF_setF_ne f g (k / 2) (j / 2) .nil x (by omega) (by omega) (by omega), Tr.getF_nil]
          | false => simp [Tr.getF_nil]
      | false =>
        have hk1 : k % 2 ≠ 1 := fun e => by rw [e] at h1; simp at h1
        simp only [Tr.getF]
        cases hj0 : Nat.beq j 0 with
        | true => rfl
        | false =>
          have hjn : j ≠ 0 := fun e => by subst e; simp at hj0
          cases hj1 : Nat.beq (j % 2) 1 with
          | true => simp [Tr.getF_nil]
          | false =>
            have hj2 : j % 2 ≠ 1 := fun e => by rw [e] at hj1; simp at hj1
            simp only []
            rw [Tr.getF_setF_ne f g (k / 2 - 1) (j / 2 - 1) .nil x (by omega) (by omega) (by omega), Tr.getF_nil]
  | f + 1, g + 1, k, j, .node l v r, x, hk, hj, hne => by
    simp only [Tr.setF]
    cases h0 : Nat.beq k 0 with
    | true =>
      have hk0 : k = 0 := Nat.eq_of_beq_eq_true h0
      have hj0 : Nat.beq j 0 = false := by cases h : Nat.beq j 0 with | true => exact absurd (Nat.eq_of_beq_eq_true h) (by omega) | false => rfl
      simp [Tr.getF, hj0]
    | false =>
      have hk0 : k ≠ 0 := fun e => by subst e; simp at h0
      cases h1 : Nat.beq (k % 2) 1 with
      | true =>
        have hk1 := Nat.eq_of_beq_eq_true h1
        simp only [Tr.getF]
        cases hj0 : Nat.beq j 0 with
        | true => rfl
        | false =>
          have hjn : j ≠ 0 := fun e => by subst e; simp at hj0
          cases hj1 : Nat.beq (j % 2) 1 with
          | true =>
            have := Nat.eq_of_beq_eq_true hj1
            exact Tr.getF_setF_ne f g (k / 2) (j / 2) l x (by omega) (by omega) (by omega)
          | false => rfl
      | false =>
        have hk1 : k % 2 ≠ 1 := fun e => by rw [e] at h1; simp at h1
        simp only [Tr.getF]
        cases hj0 : Nat.beq j 0 with
        | true => rfl
        | false =>
          have hjn : j ≠ 0 := fun e => by subst e; simp at hj0
          cases hj1 : Nat.beq (j % 2) 1 with
          | true => rfl
          | false =>
            have hj2 : j % 2 ≠ 1 := fun e => by rw [e] at hj1; simp at hj1
            exact Tr.getF_setF_ne f g (k / 2 - 1) (j / 2 - 1) r x (by omega) (by omega) (by omega)

theorem Tr.get_set_eq {α : Type} (t : Tr α) (k : Nat) (x : α) : (t.set k x).get k = some x :=
  Tr.getF_setF_eq (k + 1) k t x (by omega)
theorem Tr.get_set_ne {α : Type} (t : Tr α) {k j : Nat} (x : α) (h : j ≠ k) : (t.set k x).get j = t.get j :=
  Tr.getF_setF_ne (j + 1) (k + 1) k j t x (by omega) (by omega) h
theorem Tr.get_set {α : Type} (t : Tr α) (k j : Nat) (x : α) : (t.set k x).get j = if j = k then some x else t.get j := by
  split
  · rename_i h; subst h; exact Tr.get_set_eq _ _ _
  · rename_i h; exact Tr.get_set_ne _ _ h
theorem Tr.get_nil {α : Type} (k : Nat) : (Tr.nil : Tr α).get k = none := Tr.getF_nil _ _

theorem nth_eq {α : Type} : ∀ (l : List α) (i : Nat), nth l i = l[i]?
  | [], _ => by simp [nth]
  | x :: l, 0 => by simp [nth]
  | x :: l, i + 1 => by simp [nth, nth_eq l i]

theorem dropO_eq {α : Type} : ∀ (i : Nat) (l r : List α), dropO i l = some r → r = l.drop i ∧ i ≤ l.length
  | 0, l, r, h => by simp [dropO] at h; simp [h]
  | i + 1, [], r, h => by simp [dropO] at h
  | i + 1, x :: l, r, h => by
    have := dropO_eq i l r (by simpa [dropO] using h)
    exact ⟨by simpa using this.1, by simp; exact this.2⟩

theorem takeO_eq {α : Type} : ∀ (i : Nat) (l r : List α), takeO i l = some r → r = l.take i ∧ i ≤ l.length
  | 0, l, r, h => by simp [takeO] at h; simp [h]
  | i + 1, [], r, h => by simp [takeO] at h
  | i + 1, x :: l, r, h => by
    simp only [takeO] at h
    cases h1 : takeO i l with
    | none => simp [h1] at h
    | some q =>
      simp only [h1] at h
      have := takeO_eq i l q h1
      cases h
      exact ⟨by simp [this.1], by simp; exact this.2⟩

theorem takeO_some {α : Type} : ∀ (i : Nat) (l : List α), i ≤ l.length → takeO i l = some (l.take i)
  | 0, l, _ => by simp [takeO]
  | i + 1, [], h => by simp at h
  | i + 1, x :: l, h => by simp [takeO, takeO_some i l (by simpa using h)]

theorem rowOf_eq {cs : List Value} {lo k : Nat} {l : List Value} (h : rowOf cs lo k = some l) : l = (cs.drop lo).take k ∧ lo + k ≤ cs.length := by
  unfold rowOf at h
  cases h1 : dropO lo cs with
  | none => simp [h1] at h
  | some r =>
    simp only [h1] at h
    have a := dropO_eq _ _ _ h1
    have b := takeO_eq _ _ _ h
    rw [a.1] at b
    exact ⟨b.1, by have := b.2; simp at this; omega⟩
theorem rowOf_get {cs : List Value} {lo k : Nat} {l : List Value} (h : rowOf cs lo k = some l) (i : Nat) (hi : i < k) : l[i]? = cs[lo + i]? := by
  rw [(rowOf_eq h).1, List.getElem?_take, if_pos hi, List.getElem?_drop]
theorem rowOf_length {cs : List Value} {lo k : Nat} {l : List Value} (h : rowOf cs lo k = some l) : l.length = k := by
  have := rowOf_eq h
  rw [this.1]; simp; omega

theorem over_eq {α : Type} : ∀ (vs l r : List α), over vs l = some r → r = vs ++ l.drop vs.length ∧ vs.length ≤ l.length
  | [], l, r, h => by simp [over] at h; simp [h]
  | v :: vs, [], r, h => by simp [over] at h
  | v :: vs, x :: l, r, h => by
    simp only [over] at h
    cases h1 : over vs l with
    | none => simp [h1] at h
    | some q =>
      simp only [h1] at h
      have := over_eq vs l q h1
      cases h
      exact ⟨by simp [this.1], by simp; exact this.2⟩

theorem putAt_eq {α : Type} : ∀ (i : Nat) (vs l r : List α), putAt i vs l = some r → r = l.take i ++ vs ++ l.drop (i + vs.length) ∧ i + vs.length ≤ l.length
  | 0, vs, l, r, h => by
    have := over_eq vs l r (by cases l <;> simpa [putAt] using h)
    simpa using this
  | i + 1, vs, [], r, h => by simp [putAt] at h
  | i + 1, vs, x :: l, r, h => by
    simp only [putAt] at h
    cases h1 : putAt i vs l with
    | none => simp [h1] at h
    | some q =>
      simp only [h1] at h
      have := putAt_eq i vs l q h1
      cases h
      refine ⟨?_, by simp; omega⟩
      rw [this.1, show i + 1 + vs.length = (i + vs.length) + 1 from by omega]
      simp

theorem putAt_length {α : Type} {i : Nat} {vs l r : List α} (h : putAt i vs l = some r) : r.length = l.length := by
  have := putAt_eq _ _ _ _ h
  rw [this.1]; simp; omega
theorem putAt_get {α : Type} {i : Nat} {vs l r : List α} (h : putAt i vs l = some r) (j : Nat) :
    r[j]? = if i ≤ j ∧ j < i + vs.length then vs[j - i]? else l[j]? := by
  obtain ⟨e, hl⟩ := putAt_eq _ _ _ _ h
  rw [e]
  have hi : i ≤ l.length := by omega
  rw [List.append_assoc, List.getElem?_append, List.length_take, Nat.min_eq_left hi]
  split
  · rename_i h1
    rw [List.getElem?_take, if_pos h1, if_neg (by omega)]
  · rename_i h1
    rw [List.getElem?_append]
    split
    · rename_i h2; rw [if_pos (by omega)]
    · rename_i h2
      rw [List.getElem?_drop, if_neg (by omega)]
      congr 1; omega

theorem force_eq {α : Type} (n : Nat) (k : Nat → α) : force n k = k n := by cases n <;> rfl
theorem forceI_eq {α : Type} (i : Int) (k : Int → α) : forceI i k = k i := by cases i <;> simp [forceI, force_eq]
theorem mkInt_eq (k : IntKind) (n : Int) : mkInt k n = some (.int k n) := by simp [mkInt, forceI_eq]
theorem mkSlice_eq (a : Option Addr) (n c : Nat) : mkSlice a n c = .slice a n c := by simp [mkSlice, force_eq]

section
variable {α β : Type}
theorem M.bnd_some {x : M α} {f : α → M β} {s : S} {r : β × S} (h : M.bnd x f s = some r) : ∃ a s1, x s = some (a, s1) ∧ f a s1 = some r := by
  simp only [M.bnd] at h
  cases hx : x s with
  | none => simp [hx] at h
  | some p => obtain ⟨a, s1⟩ := p; exact ⟨a, s1, rfl, by simpa [hx] using h⟩
theorem M.bnd_eq {x : M α} {f : α → M β} {s s1 : S} {a : α} (h : x s = some (a, s1)) : M.bnd x f s = f a s1 := by simp [M.bnd, h]
theorem M.ret_some {a b : α} {s s' : S} (h : M.ret a s = some (b, s')) : b = a ∧ s' = s := by simp [M.ret] at h; exact ⟨h.1.symm, h.2.symm⟩
theorem M.opt_some {o : Option α} {b : α} {s s' : S} (h : M.opt o s = some (b, s')) : o = some b ∧ s' = s := by
  cases o with
  | none => simp [M.opt] at h
  | some a => simp [M.opt] at h; exact ⟨by rw [h.1], h.2.symm⟩
theorem M.fail_some {b : α} {s s' : S} (h : M.fail s = some (b, s')) : False := by simp [M.fail] at h
end
end Go.Shade

/- Locality: what a piece of the evaluator does hangs on the objects that its log names, and on its own. -/
namespace Go.Shade

/-- The accesses write the object b. -/
def Wr (δ : List Acc) (b : Nat) : Prop := ∃ e ∈ δ, e.wr = true ∧ e.b = b

structure Loc1 {α : Type} (x : M α) (n : Nat) (H : Tr AObj) (lim : Nat) (a : α) (n' : Nat) (H' : Tr AObj) (δ : List Acc) : Prop where
  le : n ≤ n'
  old : ∀ e ∈ δ, e.b < lim
  again : ∀ H2 log2, (∀ e ∈ δ, H2.get e.b = H.get e.b) → (∀ b, lim ≤ b → b < n → H2.get b = H.get b) →
    ∃ H2', x ⟨n, H2, lim, log2⟩ = some (a, ⟨n', H2', lim, δ ++ log2⟩) ∧
      (∀ b, (Wr δ b ∨ (lim ≤ b ∧ b < n')) → H2'.get b = H'.get b) ∧
      (∀ b, ¬ Wr δ b → ¬ (lim ≤ b ∧ b < n') → H2'.get b = H2.get b)

def Local {α : Type} (x : M α) : Prop :=
  ∀ n H lim log a n' H' lim' log', x ⟨n, H, lim, log⟩ = some (a, ⟨n', H', lim', log'⟩) → lim ≤ n →
    lim' = lim ∧ ∃ δ, log' = δ ++ log ∧ Loc1 x n H lim a n' H' δ

theorem Loc1.frame {α : Type} {x : M α} {n : Nat} {H : Tr AObj} {lim : Nat} {a : α} {n' : Nat} {H' : Tr AObj} {δ : List Acc} {log : List Acc}
    (h : Loc1 x n H lim a n' H' δ) (hx : x ⟨n, H, lim, log⟩ = some (a, ⟨n', H', lim, δ ++ log⟩)) :
    ∀ b, ¬ Wr δ b → ¬ (lim ≤ b ∧ b < n') → H'.get b = H.get b := by
  obtain ⟨H2', e, _, hf⟩ := h.again H log (fun _ _ => rfl) (fun _ _ _ => rfl)
  rw [hx] at e
  simp only [Option.some.injEq, Prod.mk.injEq, S.mk.injEq, true_and] at e
  obtain ⟨rfl, _⟩ := e
  exact hf

section
variable {α β : Type}

theorem Local.ret (a : α) : Local (M.ret a) := by
  intro n H lim log a1 n' H' lim' log' h hl
  simp only [M.ret, Option.some.injEq, Prod.mk.injEq, S.mk.injEq] at h
  obtain ⟨rfl, rfl, rfl, rfl, rfl⟩ := h
  refine ⟨rfl, [], rfl, Nat.le_refl _, by simp, fun H2 log2 _ h2 => ⟨H2, rfl, ?_, fun _ _ _ => rfl⟩⟩
  rintro b (⟨e, he, _⟩ | ⟨h3, h4⟩)
  · simp at he
  · exact h2 b h3 h4

theorem Local.fail : Local (M.fail : M α) := by
  intro n H lim log a1 n' H' lim' log' h
  simp [M.fail] at h

theorem Local.opt (o : Option α) : Local (M.opt o) := by
  cases o with
  | none => exact fun _ _ _ _ _ _ _ _ _ h => by simp [M.opt] at h
  | some a => exact Local.ret a

theorem Wr_append (δ ε : List Acc) (b : Nat) : Wr (δ ++ ε) b ↔ Wr δ b ∨ Wr ε b := by
  unfold Wr
  constructor
  · rintro ⟨e, he, h⟩
    rcases List.mem_append.1 he with h1 | h1
    · exact .inl ⟨e, h1, h⟩
    · exact .inr ⟨e, h1, h⟩
  · rintro (⟨e, he, h⟩ | ⟨e, he, h⟩)
    · exact ⟨e, List.mem_append_left _ he, h⟩
    · exact ⟨e, List.mem_append_right _ he, h⟩

theorem Local.bnd {x : M α} {f : α → M β} (hx : Local x) (hf : ∀ a, Local (f a)) : Local (M.bnd x f) := by
  intro n H lim log c n' H' lim' log' h hl
  obtain ⟨a, ⟨n1, H1, lim1, log1⟩, h1, h2⟩ := M.bnd_some h
  obtain ⟨e1, δ1, rfl, L1⟩ := hx _ _ _ _ _ _ _ _ _ h1 hl
  have e1' := e1.symm
  subst e1'
  obtain ⟨e2, δ2, rfl, L2⟩ := hf a _ _ _ _ _ _ _ _ _ h2 (Nat.le_trans hl L1.le)
  have e2' := e2.symm
  subst e2'
  have F1 := L1.frame h1
  refine ⟨rfl, δ2 ++ δ1, by simp, Nat.le_trans L1.le L2.le, ?_, ?_⟩
  · intro e he
    rcases List.mem_append.1 he with h | h
    · exact L2.old e h
    · exact L1.old e h
  · intro H2 log2 hag hown
    obtain ⟨K1, e1, k1, k2⟩ := L1.again H2 log2 (fun e he => hag e (List.mem_append_right _ he)) hown
    have hag2 : ∀ e ∈ δ2, K1.get e.b = H1.get e.b := by
      intro e he
      by_cases hw : Wr δ1 e.b
      · exact k1 _ (.inl hw)
      · have hb : ¬ (lim ≤ e.b ∧ e.b < n1) := fun h => by have := L2.old e he; omega
        rw [k2 _ hw hb, F1 _ hw hb]
        exact hag e (List.mem_append_left _ he)
    have hown2 : ∀ b, lim ≤ b → b < n1 → K1.get b = H1.get b := fun b hb1 hb2 => k1 b (.inr ⟨hb1, hb2⟩)
    obtain ⟨K2, e2, k3, k4⟩ := L2.again K1 (δ1 ++ log2) hag2 hown2
    refine ⟨K2, ?_, ?_, ?_⟩
    · rw [M.bnd_eq e1, e2, List.append_assoc]
    · intro b hb
      by_cases h3 : Wr δ2 b ∨ (lim ≤ b ∧ b < n')
      · exact k3 b h3
      · have hnw : ¬ Wr δ2 b := fun h => h3 (.inl h)
        have hno : ¬ (lim ≤ b ∧ b < n') := fun h => h3 (.inr h)
        have F2 := L2.frame h2
        rw [k4 b hnw hno, F2 b hnw hno]
        rcases hb with hb | hb
        · rw [Wr_append] at hb
          rcases hb with hb | hb
          · exact absurd hb hnw
          · exact k1 b (.inl hb)
        · exact absurd hb hno
    · intro b hb hno
      rw [Wr_append] at hb
      have h3 : ¬ Wr δ2 b := fun h => hb (.inl h)
      have h4 : ¬ Wr δ1 b := fun h => hb (.inr h)
      rw [k4 b h3 hno, k2 b h4 (fun h => hno ⟨h.1, Nat.lt_of_lt_of_le h.2 L2.le⟩)]

theorem note_eq (b lim : Nat) (log : List Acc) (wr : Bool) : note b lim log wr = (if b < lim then [⟨wr, b⟩] else []) ++ log := by
  unfold note
  by_cases h : b < lim
  · have : Nat.blt b lim = true := by rw [Nat.blt_eq]; exact h
    simp [this, h]
  · have : Nat.blt b lim = false := by
      cases h1 : Nat.blt b lim with
      | true => rw [Nat.blt_eq] at h1; exact absurd h1 h
      | false => rfl
    simp [this, h]

theorem touch_lt {b : Nat} {f : AObj → Option (α × Option AObj)} {n : Nat} {H : Tr AObj} {lim : Nat} {log : List Acc} {r : α × S}
    (h : touch b f ⟨n, H, lim, log⟩ = some r) : b < n := by
  simp only [touch] at h
  cases hb : Nat.blt b n with
  | true => rw [Nat.blt_eq] at hb; exact hb
  | false => rw [hb] at h; cases h

theorem touch_some {b : Nat} {f : AObj → Option (α × Option AObj)} {n : Nat} {H : Tr AObj} {lim : Nat} {log : List Acc} {a : α} {s' : S}
    (h : touch b f ⟨n, H, lim, log⟩ = some (a, s')) : ∃ x, H.get b = some x ∧
      ((f x = some (a, none) ∧ s' = ⟨n, H, lim, note b lim log false⟩) ∨ ∃ y, f x = some (a, some y) ∧ s' = ⟨n, H.set b y, lim, note b lim log true⟩) := by
  have hb : Nat.blt b n = true := by rw [Nat.blt_eq]; exact touch_lt h
  simp only [touch, hb] at h
  cases hg : H.get b with
  | none => simp [hg] at h
  | some x =>
    simp only [hg] at h
    refine ⟨x, rfl, ?_⟩
    split at h
    · rename_i c hc
      simp only [Option.some.injEq, Prod.mk.injEq] at h
      obtain ⟨rfl, rfl⟩ := h
      exact .inl ⟨hc, rfl⟩
    · rename_i c y hc
      simp only [Option.some.injEq, Prod.mk.injEq] at h
      obtain ⟨rfl, rfl⟩ := h
      exact .inr ⟨y, hc, rfl⟩
    · cases h

theorem touch_rd {b : Nat} {f : AObj → Option (α × Option AObj)} {n : Nat} {H : Tr AObj} {lim : Nat} {log : List Acc} {a : α} {x : AObj}
    (hb : b < n) (hg : H.get b = some x) (hf : f x = some (a, none)) : touch b f ⟨n, H, lim, log⟩ = some (a, ⟨n, H, lim, note b lim log false⟩) := by
  have hb : Nat.blt b n = true := by rw [Nat.blt_eq]; exact hb
  simp [touch, hg, hf, hb]
theorem touch_wr {b : Nat} {f : AObj → Option (α × Option AObj)} {n : Nat} {H : Tr AObj} {lim : Nat} {log : List Acc} {a : α} {x y : AObj}
    (hb : b < n) (hg : H.get b = some x) (hf : f x = some (a, some y)) : touch b f ⟨n, H, lim, log⟩ = some (a, ⟨n, H.set b y, lim, note b lim log true⟩) := by
  have hb : Nat.blt b n = true := by rw [Nat.blt_eq]; exact hb
  simp [touch, hg, hf, hb]

theorem Local.touch (b : Nat) (f : AObj → Option (α × Option AObj)) : Local (touch b f) := by
  intro n H lim log a n' H' lim' log' h hl
  obtain ⟨x, hg, hh⟩ := touch_some h
  have hbn : b < n := touch_lt h
  rcases hh with ⟨hf, e⟩ | ⟨y, hf, e⟩
  · simp only [S.mk.injEq] at e
    obtain ⟨rfl, rfl, rfl, rfl⟩ := e
    refine ⟨rfl, _, note_eq _ _ _ _, Nat.le_refl _, ?_, ?_⟩
    · intro e he; split at he
      · simp at he; rw [he]; assumption
      · simp at he
    · intro H2 log2 hag hown
      have hg2 : H2.get b = some x := by
        by_cases hb : b < lim'
        · rw [hag ⟨false, b⟩ (by simp [hb]), hg]
        · rw [hown b (by omega) hbn, hg]
      refine ⟨H2, by rw [touch_rd hbn hg2 hf, note_eq], ?_, fun _ _ _ => rfl⟩
      rintro c (⟨e, he, hw, rfl⟩ | ⟨h3, h4⟩)
      · split at he <;> simp at he; subst he; simp at hw
      · exact hown c h3 h4
  · simp only [S.mk.injEq] at e
    obtain ⟨rfl, rfl, rfl, rfl⟩ := e
    refine ⟨rfl, _, note_eq _ _ _ _, Nat.le_refl _, ?_, ?_⟩
    · intro e he; split at he
      · simp at he; rw [he]; assumption
      · simp at he
    · intro H2 log2 hag hown
      have hg2 : H2.get b = some x := by
        by_cases hb : b < lim'
        · rw [hag ⟨true, b⟩ (by simp [hb]), hg]
        · rw [hown b (by omega) hbn, hg]
      refine ⟨H2.set b y, by rw [touch_wr hbn hg2 hf, note_eq], ?_, ?_⟩
      · intro c hc
        by_cases hcb : c = b
        · subst hcb; rw [Tr.get_set_eq, Tr.get_set_eq]
        · rw [Tr.get_set_ne _ _ hcb, Tr.get_set_ne _ _ hcb]
          rcases hc with ⟨e, he, hw, rfl⟩ | ⟨h3, h4⟩
          · split at he <;> simp at he; subst he; exact absurd rfl hcb
          · exact hown c h3 h4
      · intro c hc hno
        by_cases hcb : c = b
        · subst hcb
          by_cases hb : c < lim'
          · exact absurd ⟨⟨true, c⟩, by simp [hb], rfl, rfl⟩ hc
          · exact absurd ⟨by omega, hbn⟩ hno
        · rw [Tr.get_set_ne _ _ hcb]

theorem Local.newObj (o : AObj) : Local (newObj o) := by
  intro n H lim log a n' H' lim' log' h hl
  simp only [Shade.newObj, force_eq, Option.some.injEq, Prod.mk.injEq, S.mk.injEq] at h
  obtain ⟨rfl, rfl, rfl, rfl, rfl⟩ := h
  refine ⟨rfl, [], rfl, by omega, by simp, ?_⟩
  · intro H2 log2 hag hown
    refine ⟨H2.set n o, by simp [Shade.newObj, force_eq], ?_, ?_⟩
    · rintro b (⟨e, he, _⟩ | ⟨h3, h4⟩)
      · simp at he
      · by_cases hb : b = n
        · subst hb; rw [Tr.get_set_eq, Tr.get_set_eq]
        · rw [Tr.get_set_ne _ _ hb, Tr.get_set_ne _ _ hb]; exact hown b h3 (by omega)
    · intro b hb hno
      rw [Tr.get_set_ne _ _ (by intro e; subst e; exact hno ⟨hl, by omega⟩)]

theorem Local.force {k : Nat → M α} (n : Nat) (h : ∀ n, Local (k n)) : Local (force n k) := by rw [force_eq]; exact h n
theorem Local.kill : ∀ l, Local (kill l)
  | [] => Local.ret _
  | _ :: l => Local.bnd (Local.touch _ _) fun _ => Local.kill l
end

theorem Local.rdRow (b lo cnt : Nat) : Local (rdRow b lo cnt) := Local.touch _ _
theorem Local.rdCell (b i : Nat) : Local (rdCell b i) := Local.touch _ _
theorem Local.wrRow (b lo : Nat) (vs : List Value) : Local (wrRow b lo vs) := by
  refine Local.bnd (Local.touch _ _) fun old => ?_
  cases old with
  | nil => exact Local.ret _
  | cons o l => exact Local.bnd (Local.kill _) fun _ => Local.bnd (Local.touch _ _) fun _ => Local.ret _
theorem Local.newRow (cs : List Value) (old : List Nat) (esz : Nat) : Local (newRow cs old esz) := by
  unfold Shade.newRow; split
  · exact Local.newObj _
  · exact Local.fail

section
variable (P : Program)
theorem Local.loadV (t : TypeId) (b i : Nat) : Local (loadV P t b i) := by
  unfold Shade.loadV
  repeat' split
  all_goals first | exact Local.fail | exact Local.rdCell _ _ | exact Local.bnd (Local.rdRow _ _ _) fun _ => Local.ret _
theorem Local.storeV (t : TypeId) (b i : Nat) (v : Value) : Local (storeV P t b i v) := by
  unfold Shade.storeV
  repeat' split
  all_goals first | exact Local.fail | exact Local.wrRow _ _ _
theorem Local.rdSlice (k : Nat) (x : Value) (n : Nat) : Local (rdSlice k x n) := by
  unfold Shade.rdSlice
  repeat' split
  all_goals first | exact Local.fail | exact Local.rdRow _ _ _ | exact Local.ret _
theorem Local.grown (cs : List Value) (len k : Nat) (old : List Nat) : Local (grown cs len k old) := by
  unfold Shade.grown; split <;> first | exact Local.fail | exact Local.bnd (Local.newRow _ _ _) fun _ => Local.ret _
theorem Local.ownRow (b : Nat) : Local (ownRow b) := Local.touch _ _
theorem Local.retire (k b upto : Nat) : Local (retire k b upto) := Local.touch _ _
theorem Local.getMap (r : Nat) : Local (getMap r) := Local.touch _ _
theorem Local.setMap (r : Nat) (es : List (Value × Value)) : Local (setMap r es) := Local.touch _ _
theorem Local.convStr (dst : TypeId) (s : ByteArray) : Local (convStr P dst s) := by
  unfold Shade.convStr
  repeat' split
  all_goals first | exact Local.fail | exact Local.ret _ | exact Local.grown _ _ _ _
theorem Local.convSlice (src dst : TypeId) (a : Option Addr) (n c : Nat) : Local (convSlice P src dst a n c) := by
  unfold Shade.convSlice Shade.convRow
  repeat' split
  all_goals first | exact Local.fail | exact Local.bnd (Local.rdSlice _ _ _) fun _ => Local.opt _ | exact Local.bnd (Local.ownRow _) fun _ => Local.ret _
theorem Local.convV (src dst : TypeId) (x : Value) : Local (convV P src dst x) := by
  unfold Shade.convV
  repeat' split
  all_goals first | exact Local.fail | exact Local.opt _ | exact Local.convStr P _ _ | exact Local.convSlice P _ _ _ _ _
theorem Local.appIn (k : Nat) (a : Option Addr) (sLen n code : Nat) (new : List Value) : Local (appIn k a sLen n code new) := by
  unfold Shade.appIn
  repeat' split
  all_goals first | exact Local.fail | exact Local.ret _ | exact Local.bnd (Local.wrRow _ _ _) fun _ => Local.ret _
theorem Local.appOut (k : Nat) (a : Option Addr) (sLen code n : Nat) (ex : Bool) (new old : List Value) : Local (appOut k a sLen code n ex new old) := by
  unfold Shade.appOut
  repeat' split
  all_goals first | exact Local.fail | exact Local.grown _ _ _ _ | exact Local.bnd (Local.retire _ _ _) fun _ => Local.grown _ _ _ _
theorem Local.appRow (k bytes : Nat) (a : Option Addr) (sLen code n : Nat) (new : List Value) : Local (appRow k bytes a sLen code n new) := by
  unfold Shade.appRow
  repeat' split
  all_goals first | exact Local.fail | exact Local.appIn _ _ _ _ _ _ | exact Local.bnd (Local.rdSlice _ _ _) fun _ => Local.appOut _ _ _ _ _ _ _ _
theorem Local.appendV (t : TypeId) (s x : Value) : Local (appendV P t s x) := by
  unfold Shade.appendV
  repeat' split
  all_goals first | exact Local.fail | exact Local.bnd (Local.rdSlice _ _ _) fun _ => Local.appRow _ _ _ _ _ _ _
theorem Local.copyRow (a : Option Addr) (n : Nat) (cs : List Value) : Local (copyRow a n cs) := by
  unfold Shade.copyRow
  repeat' split
  all_goals first | exact Local.fail | exact Local.opt _ | exact Local.bnd (Local.wrRow _ _ _) fun _ => Local.opt _
theorem Local.copyV (t : TypeId) (d x : Value) : Local (copyV P t d x) := by
  unfold Shade.copyV
  repeat' split
  all_goals first | exact Local.fail | exact Local.bnd (Local.rdSlice _ _ _) fun _ => Local.copyRow _ _ _
theorem Local.builtinV (b : Builtin) (ts : List TypeId) (args : List Value) : Local (builtinV P b ts args) := by
  unfold Shade.builtinV Shade.appB Shade.lenB Shade.clearB
  repeat' split
  all_goals first | exact Local.fail | exact Local.ret _ | exact Local.opt _ | exact Local.appendV P _ _ _ | exact Local.copyV P _ _ _ | exact Local.bnd (Local.getMap _) fun _ => Local.opt _ | exact Local.bnd (Local.setMap _ _) fun _ => Local.ret _ | exact Local.bnd (Local.wrRow _ _ _) fun _ => Local.ret _
theorem Local.asVal {x : M Value} (h : Local x) : Local (asVal x) := Local.bnd h fun _ => Local.ret _
theorem Local.ptrTo {x : M Nat} (h : Local x) : Local (ptrTo x) := Local.bnd h fun _ => Local.ret _
theorem Local.optVal (o : Option Value) : Local (optVal o) := by unfold Shade.optVal; split <;> first | exact Local.ret _ | exact Local.fail
theorem Local.aggOf (o : Option (List Value)) : Local (aggOf o) := by unfold Shade.aggOf; split <;> first | exact Local.ret _ | exact Local.fail
theorem Local.found (et : TypeId) (ok : Bool) (r : Option (Nat × Value)) : Local (found P et ok r) := by
  unfold Shade.found; repeat' split
  all_goals first | exact Local.ret _ | exact Local.fail
theorem Local.lookIn (kt et : TypeId) (k : Value) (ok : Bool) (es : List (Value × Value)) : Local (lookIn P kt et k ok es) := by
  unfold Shade.lookIn; repeat' split
  all_goals first | exact Local.found P _ _ _ | exact Local.fail
theorem Local.storeIn (kt : TypeId) (r : Nat) (k x : Value) (es : List (Value × Value)) : Local (storeIn P kt r k x es) := by
  unfold Shade.storeIn; repeat' split
  all_goals first | exact Local.fail | exact Local.bnd (Local.setMap _ _) fun _ => Local.ret _
theorem Local.notThat (t : TypeId) (ok : Bool) : Local (notThat P t ok) := by
  unfold Shade.notThat; repeat' split
  all_goals first | exact Local.ret _ | exact Local.fail
theorem Local.entered (o : Option (FuncId × List Value)) : Local (entered o) := by unfold Shade.entered; repeat' split <;> first | exact Local.ret _ | exact Local.fail
theorem Local.deferred (o : Option (FuncId × List Value)) : Local (deferred o) := by unfold Shade.deferred; repeat' split <;> first | exact Local.ret _ | exact Local.fail
theorem Local.opPanic (x : Value) : Local (opPanic x) := by unfold Shade.opPanic; split <;> first | exact Local.ret _ | exact Local.fail

theorem Local.evOp (ρ : Operand → Value) (op : Op) : Local (evOp P ρ op) := by
  cases op <;> simp only [Shade.evOp] <;> (try exact Local.fail) <;> (try exact Local.ret _) <;> (try exact Local.optVal _) <;> (try exact Local.opPanic _)
  case pick => unfold opPick; split <;> first | exact Local.ret _ | exact Local.fail
  case alloc => unfold opAlloc; split <;> first | exact Local.ptrTo (Local.newRow _ _ _) | exact Local.fail
  case box => exact Local.ptrTo (Local.newRow _ _ _)
  case build => unfold opBuild; repeat' split
                all_goals first | exact Local.aggOf _ | exact Local.fail
  case buildSlice => unfold opBuildSlice; repeat' split
                     all_goals first | exact Local.fail | exact Local.bnd (Local.newRow _ _ _) fun _ => Local.ret _
  case load => unfold opLoad; split <;> first | exact Local.fail | exact Local.asVal (Local.loadV P _ _ _)
  case store => unfold opStore; split <;> first | exact Local.fail | exact Local.bnd (Local.storeV P _ _ _ _) fun _ => Local.ret _
  case nilCheck => unfold opNilCheck; split <;> first | exact Local.ret _ | exact Local.fail
  case convert => exact Local.asVal (Local.convV P _ _ _)
  case makeInterface => unfold opIface; split <;> first | exact Local.ret _ | exact Local.fail
  case makeSlice => unfold opMakeSlice; repeat' split
                    all_goals first | exact Local.fail | exact Local.bnd (Local.newRow _ _ _) fun _ => Local.ret _
  case makeMap t r => cases r with
    | none => exact Local.bnd (Local.newObj _) fun _ => Local.ret _
    | some _ => exact Local.fail
  case slice => unfold opSlice; split <;> first | exact Local.optVal _ | exact Local.fail
  case fieldAddr => unfold opFieldAddr; repeat' split
                    all_goals first | exact Local.fail | exact Local.force _ fun _ => Local.ret _
  case field => unfold opField; repeat' split
                all_goals first | exact Local.fail | exact Local.optVal _
  case indexAddr => unfold opIndexAddr ptrAt; repeat' split
                    all_goals first | exact Local.fail | exact Local.force _ fun _ => Local.ret _
  case index => unfold opIndex; repeat' split
                all_goals first | exact Local.fail | exact Local.ret _ | exact Local.optVal _
  case lookup => unfold opLookup; repeat' split
                 all_goals first | exact Local.fail | exact Local.lookIn P _ _ _ _ _ | exact Local.bnd (Local.getMap _) fun _ => Local.lookIn P _ _ _ _ _
  case mapUpdate => unfold opMapUpdate; repeat' split
                    all_goals first | exact Local.fail | exact Local.bnd (Local.getMap _) fun _ => Local.storeIn P _ _ _ _ _
  case range => unfold opRange; repeat' split
                all_goals first | exact Local.fail | exact Local.ptrTo (Local.newObj _)
  case next => unfold opNext nextAt; repeat' split
               all_goals first | exact Local.fail | exact Local.touch _ _
  case typeAssert => unfold opAssert assertTo; repeat' split
                     all_goals first | exact Local.fail | exact Local.ret _ | exact Local.notThat P _ _
  case extract => unfold opExtract; split <;> first | exact Local.fail | exact Local.optVal _
  case call c =>
    unfold opCall; split
    · exact Local.entered _
    · unfold opBuiltin; split <;> first | exact Local.ret _ | exact Local.opPanic _ | exact Local.asVal (Local.builtinV P _ _ _)
    · exact Local.fail
  case defer c =>
    unfold opDefer; split
    · exact Local.deferred _
    · exact Local.fail
end
end Go.Shade

/- Locality of regions, code, calls. -/
namespace Go.Shade

def LocalCall (call : CallSem) : Prop := ∀ f args p, Local (call f args p)

theorem outer_eq (lim : Nat) : ∀ (δ log : List Acc), outer lim δ log = δ.filter (fun e => decide (e.b < lim)) ++ log
  | [], log => rfl
  | a :: l, log => by
    simp only [outer]
    by_cases h : a.b < lim
    · have h1 : Nat.blt a.b lim = true := by rw [Nat.blt_eq]; exact h
      simp [h1, h, outer_eq lim l log]
    · have h1 : Nat.blt a.b lim = false := by
        cases h1 : Nat.blt a.b lim with
        | true => rw [Nat.blt_eq] at h1; exact absurd h1 h
        | false => rfl
      simp [h1, h, outer_eq lim l log]

theorem Local.getN : Local getN := by
  intro n H lim log a n' H' lim' log' h hl
  simp only [Shade.getN, Option.some.injEq, Prod.mk.injEq, S.mk.injEq] at h
  obtain ⟨rfl, rfl, rfl, rfl, rfl⟩ := h
  refine ⟨rfl, [], rfl, Nat.le_refl _, by simp, fun H2 log2 _ h2 => ⟨H2, rfl, ?_, fun _ _ _ => rfl⟩⟩
  rintro b (⟨e, he, _⟩ | ⟨h3, h4⟩)
  · simp at he
  · exact h2 b h3 h4

theorem sub_some {α : Type} {x : M α} {n : Nat} {H : Tr AObj} {lim : Nat} {log : List Acc} {r : α × Rec} {s' : S} (h : sub x ⟨n, H, lim, log⟩ = some (r, s')) :
    ∃ a n' H' lim1 log', x ⟨n, H, n, []⟩ = some (a, ⟨n', H', lim1, log'⟩) ∧ r = (a, ⟨n, n', log'⟩) ∧ s' = ⟨n', H', lim, outer lim log' log⟩ := by
  simp only [sub] at h
  split at h
  · rename_i a n' H' lim1 log' hx
    simp only [Option.some.injEq, Prod.mk.injEq] at h
    exact ⟨a, n', H', lim1, log', hx, h.1.symm, h.2.symm⟩
  · cases h

theorem Local.sub {α : Type} {x : M α} (hx : Local x) : Local (sub x) := by
  intro n H lim log r n' H' lim' log' h hl
  obtain ⟨a, n1, H1, lim1, log1, h1, rfl, e⟩ := sub_some h
  simp only [S.mk.injEq] at e
  obtain ⟨rfl, rfl, rfl, rfl⟩ := e
  obtain ⟨e1, δ, e2, L⟩ := hx _ _ _ _ _ _ _ _ _ h1 (Nat.le_refl _)
  rw [List.append_nil] at e2
  subst e1 e2
  have F := L.frame (log := []) (by rw [h1, List.append_nil])
  refine ⟨rfl, _, outer_eq _ _ _, L.le, ?_, ?_⟩
  · intro e he; simpa using (List.mem_filter.1 he).2
  · intro H2 log2 hag hown
    obtain ⟨H2', e2, k1, k2⟩ := L.again H2 [] (fun e he => by
      by_cases hb : e.b < lim'
      · exact hag e (List.mem_filter.2 ⟨he, by simpa using hb⟩)
      · exact hown _ (by omega) (L.old e he)) (fun b h1 h2 => by omega)
    refine ⟨H2', by rw [Shade.sub, e2]; simp [outer_eq], ?_, ?_⟩
    · intro b hb
      by_cases hw : Wr log1 b
      · exact k1 b (.inl hw)
      · by_cases hn : lim1 ≤ b ∧ b < n'
        · exact k1 b (.inr hn)
        · rw [k2 b hw hn, F b hw hn]
          rcases hb with ⟨e, he, h3, h4⟩ | ⟨h3, h4⟩
          · exact absurd ⟨e, (List.mem_filter.1 he).1, h3, h4⟩ hw
          · exact hown b h3 (by omega)
    · intro b hb hno
      refine k2 b ?_ (fun h => hno ⟨by omega, h.2⟩)
      rintro ⟨e, he, h3, rfl⟩
      by_cases hl2 : e.b < lim'
      · exact hb ⟨e, List.mem_filter.2 ⟨he, by simpa using hl2⟩, h3, rfl⟩
      · exact hno ⟨by omega, Nat.lt_of_lt_of_le (L.old e he) L.le⟩

section
variable (P : Program) {call : CallSem}
theorem Local.normed (o : Option Fr) : Local (normed o) := by unfold Shade.normed; split <;> first | exact Local.ret _ | exact Local.fail
theorem Local.called (fr : Fr) (dst : Option Tmp) (r : COut) : Local (called fr dst r) := by
  cases r with
  | ret v _ => exact Local.normed _
  | panic v => exact Local.ret _
theorem Local.seen (fr : Fr) (dst : Option Tmp) : Local (seen fr dst) := by
  unfold Shade.seen; split <;> exact Local.normed _
theorem Local.after (hc : LocalCall call) (dst : Option Tmp) (fr : Fr) (r : Res) : Local (after call dst fr r) := by
  cases r with
  | val v => exact Local.normed _
  | enter f args => exact Local.bnd (hc _ _ _) fun r => Local.called _ _ _
  | panic v => exact Local.ret _
  | defer f args => exact Local.normed _
  | recover => exact Local.seen _ _
theorem Local.evOne (hc : LocalCall call) (ops : List Oper) (o : Oper) (fr : Fr) : Local (evOne P call ops o fr) := by
  unfold Shade.evOne; split
  · exact Local.normed _
  · exact Local.bnd (Local.evOp P _ _) fun r => Local.after hc _ _ _
theorem Local.evOps (hc : LocalCall call) (ops : List Oper) : ∀ l fr, Local (evOps P call ops l fr)
  | [], _ => Local.ret _
  | o :: l, fr => Local.bnd (Local.evOne P hc ops o fr) fun r => by
    obtain ⟨out, fr⟩ := r
    cases out <;> first | exact Local.evOps hc ops l fr | exact Local.ret _
theorem Local.valOf (hc : LocalCall call) (r : Res) : Local (valOf call r) := by
  cases r <;> first | exact Local.ret _ | exact Local.fail | skip
  exact Local.bnd (hc _ _ _) fun r => by cases r <;> first | exact Local.ret _ | exact Local.fail
theorem Local.evVal (hc : LocalCall call) (ops : List Oper) (o : Oper) (fr : Fr) : Local (evVal P call ops o fr) := by
  unfold Shade.evVal; split
  · exact Local.ret _
  · exact Local.bnd (Local.evOp P _ _) fun r => Local.valOf hc r
theorem Local.evDraw (hc : LocalCall call) (ops : List Oper) : ∀ l fr recs, Local (evDraw P call ops l fr recs)
  | [], _, _ => Local.ret _
  | o :: l, fr, recs => Local.bnd (Local.sub (Local.evVal P hc ops o fr)) fun r => Local.bnd (Local.opt _) fun fr => Local.evDraw hc ops l fr (r.2 :: recs)
theorem Local.evRegion (hc : LocalCall call) (ops : List Oper) (draw : Bool) (fr : Fr) : Local (evRegion P call ops draw fr) := by
  cases draw with
  | false => exact Local.evOps P hc ops ops fr
  | true =>
    simp only [Shade.evRegion]
    refine Local.bnd Local.getN fun n0 => ?_
    refine Local.bnd (Local.evDraw P hc ops ops fr []) fun r => ?_
    unfold evDrawn
    split <;> first | exact Local.ret _ | exact Local.fail
theorem Local.evLoop {body : Fr → M Ran} (hb : ∀ fr, Local (body fr)) : ∀ k fr, Local (evLoop body k fr)
  | 0, _ => Local.fail
  | k + 1, fr => Local.bnd (hb fr) fun r => by
    obtain ⟨out, fr⟩ := r
    cases out <;> first | exact Local.evLoop hb k fr | exact Local.ret _
theorem Local.unblock (id : Nat) (r : Ran) : Local (unblock id r) := by
  obtain ⟨out, fr⟩ := r
  cases out <;> simp only [Shade.unblock] <;> (try exact Local.ret _)
  split <;> exact Local.ret _
theorem Local.evC (hc : LocalCall call) (lf : Nat) : ∀ c fr, Local (evC P call lf c fr) := by
  intro c
  induction c with
  | skip => exact fun _ => Local.ret _
  | label => exact fun _ => Local.ret _
  | region id ops draw => exact fun fr => Local.evRegion P hc _ _ fr
  | seq a b iha ihb =>
    refine fun fr => Local.bnd (iha fr) fun r => ?_
    obtain ⟨out, fr⟩ := r
    cases out <;> first | exact ihb fr | exact Local.ret _
  | cond c a b iha ihb =>
    intro fr
    simp only [Shade.evC]
    split <;> first | exact iha fr | exact ihb fr | exact Local.fail
  | block id body ih => exact fun fr => Local.bnd (ih fr) fun r => Local.unblock id r
  | loop body ih => exact fun fr => Local.evLoop ih lf fr
  | scope body ih => exact ih
  | exit id => exact fun _ => Local.ret _
  | ret => exact fun _ => Local.ret _
  | goto => exact fun _ => Local.fail
  | rangeFunc => exact fun _ => Local.fail
  | refuse => exact fun _ => Local.fail
theorem Local.evResults (T : Tr Value) : ∀ l, Local (evResults P T l)
  | [] => Local.ret _
  | .tmp t :: l => Local.bnd (Local.evResults T l) fun _ => Local.ret _
  | .cell a t :: l => by
    simp only [Shade.evResults]
    split
    · exact Local.bnd (Local.loadV P _ _ _) fun _ => Local.bnd (Local.evResults T l) fun _ => Local.ret _
    · exact Local.fail
theorem Local.evUnwind (hc : LocalCall call) (res : List ResultVar) (T : Tr Value) (recd : Bool) : ∀ ds p, Local (evUnwind P call res T recd ds p)
  | [], none => Local.bnd (Local.evResults P T res) fun _ => Local.ret _
  | [], some _ => Local.ret _
  | (f, args) :: ds, p => Local.bnd (hc f args p) fun r => by
    cases r with
    | ret v b => cases b <;> exact Local.evUnwind hc res T recd ds _
    | panic v => exact Local.fail
theorem Local.leave (hc : LocalCall call) (res : List ResultVar) (r : Ran) : Local (leave P call res r) := by
  obtain ⟨out, fr⟩ := r
  obtain ⟨T, nt, defs, pan, recd⟩ := fr
  cases out <;> first | exact Local.evUnwind P hc _ _ _ _ _ | exact Local.fail
theorem Local.evF (lf : Nat) : ∀ d, LocalCall (evF P lf d)
  | 0 => fun _ _ _ => Local.fail
  | d + 1 => fun f args p => by
    simp only [Shade.evF]
    split
    · unfold enterF
      split
      · exact Local.bnd (Local.evC P (Local.evF lf d) lf _ _) fun r => Local.leave P (Local.evF lf d) _ r
      · exact Local.fail
    · exact Local.fail
end
end Go.Shade

/- How an abstract heap stands to a world: values, rows, the whole. -/
namespace Go.Shade
open Go.RowKit

/-- Where an abstract object lies: its block, the first cell, how many cells the block has, the size of an element. -/
structure Lc where
  cb : Nat
  off : Nat
  sz : Nat
  esz : Nat

abbrev Mp := Nat → Option Lc

def atomic : Value → Bool
  | .bool _ | .int _ _ | .float _ _ | .complex _ _ _ | .string _ | .pointer none | .map none | .chan none | .nilFunc | .nilIface => true
  | _ => false

mutual
inductive VRel (m : Mp) : Value → Value → Prop where
  | atom {v : Value} : atomic v = true → VRel m v v
  | ptr {b i : Nat} {l : Lc} : m b = some l → VRel m (.pointer (some ⟨b, i, none⟩)) (.pointer (some ⟨l.cb, l.off + i, none⟩))
  | nilSlice {c : Nat} : VRel m (.slice none 0 c) (.slice none 0 0)
  | sliceE {b i : Nat} {l : Lc} {n c : Nat} : m b = some l → VRel m (.slice (some ⟨b, i, none⟩) n (2 * c + 1)) (.slice (some ⟨l.cb, l.off + i, none⟩) n c)
  | sliceI {b i : Nat} {l : Lc} {n c c' k : Nat} : m b = some l → n ≤ c → c ≤ c' → k < 65536 → l.off + i + c' * k ≤ l.sz → VRel m (.slice (some ⟨b, i, none⟩) n (codeI c k)) (.slice (some ⟨l.cb, l.off + i, none⟩) n c')
  | void {a : Addr} {c' : Nat} : VRel m (.slice (some voidA) 0 0) (.slice (some a) 0 c')
  | voidE {a : Addr} : VRel m (.slice (some voidA) 0 1) (.slice (some a) 0 0)
  | map {r : Nat} {l : Lc} : m r = some l → VRel m (.map (some r)) (.map (some l.cb))
  | func {fn : Fn} {f f' c c' : Array Value} : VRelL m f.toList f'.toList → VRelL m c.toList c'.toList → VRel m (.func fn f c) (.func fn f' c')
  | iface {t : TypeId} {v v' : Value} : VRel m v v' → VRel m (.iface t v) (.iface t v')
  | agg {c c' : Array Value} : VRelL m c.toList c'.toList → VRel m (.agg c) (.agg c')
  | tuple {c c' : Array Value} : VRelL m c.toList c'.toList → VRel m (.tuple c) (.tuple c')
inductive VRelL (m : Mp) : List Value → List Value → Prop where
  | nil : VRelL m [] []
  | cons {v v' : Value} {l l' : List Value} : VRel m v v' → VRelL m l l' → VRelL m (v :: l) (v' :: l')
end

/-- More is known of where things lie. -/
def MLe (m m' : Mp) : Prop := ∀ b l, m b = some l → m' b = some l
theorem MLe.refl (m : Mp) : MLe m m := fun _ _ h => h
theorem MLe.trans {a b c : Mp} (h : MLe a b) (k : MLe b c) : MLe a c := fun _ _ e => k _ _ (h _ _ e)

mutual
theorem VRel.mono {m m' : Mp} (hm : MLe m m') : ∀ {v v' : Value}, VRel m v v' → VRel m' v v'
  | _, _, .atom h => .atom h
  | _, _, .ptr h => .ptr (hm _ _ h)
  | _, _, .nilSlice => .nilSlice
  | _, _, .sliceE h => .sliceE (hm _ _ h)
  | _, _, .sliceI h a b c d => .sliceI (hm _ _ h) a b c d
  | _, _, .void => .void
  | _, _, .voidE => .voidE
  | _, _, .map h => .map (hm _ _ h)
  | _, _, .func h k => .func (VRelL.mono hm h) (VRelL.mono hm k)
  | _, _, .iface h => .iface (VRel.mono hm h)
  | _, _, .agg h => .agg (VRelL.mono hm h)
  | _, _, .tuple h => .tuple (VRelL.mono hm h)
theorem VRelL.mono {m m' : Mp} (hm : MLe m m') : ∀ {l l' : List Value}, VRelL m l l' → VRelL m' l l'
  | _, _, .nil => .nil
  | _, _, .cons h k => .cons (VRel.mono hm h) (VRelL.mono hm k)
end

theorem VRelL.length {m : Mp} : ∀ {l l' : List Value}, VRelL m l l' → l.length = l'.length
  | _, _, .nil => rfl
  | _, _, .cons _ k => by simp [VRelL.length k]
theorem VRelL.get {m : Mp} : ∀ {l l' : List Value}, VRelL m l l' → ∀ {i : Nat} {v : Value}, l[i]? = some v → ∃ v', l'[i]? = some v' ∧ VRel m v v'
  | _, _, .nil, i, v, h => by simp at h
  | _, _, .cons (v' := v') h k, 0, v, e => by simp at e; subst e; exact ⟨v', by simp, h⟩
  | _, _, .cons h k, i + 1, v, e => by simpa using VRelL.get k (by simpa using e)
theorem VRelL.of_get {m : Mp} : ∀ {l l' : List Value}, l.length = l'.length → (∀ (i : Nat) (v : Value), l[i]? = some v → ∃ v', l'[i]? = some v' ∧ VRel m v v') → VRelL m l l'
  | [], [], _, _ => .nil
  | [], _ :: _, h, _ => by simp at h
  | _ :: _, [], h, _ => by simp at h
  | v :: l, v' :: l', h, k => by
    obtain ⟨u, hu, hr⟩ := k 0 v (by simp)
    simp at hu
    subst hu
    exact .cons hr (VRelL.of_get (by simpa using h) fun i x hx => by simpa using k (i + 1) x (by simpa using hx))
theorem VRelL.append {m : Mp} : ∀ {a a' b b' : List Value}, VRelL m a a' → VRelL m b b' → VRelL m (a ++ b) (a' ++ b')
  | _, _, _, _, .nil, k => k
  | _, _, _, _, .cons h g, k => .cons h (VRelL.append g k)
theorem VRelL.map {m : Mp} {α : Type} (f g : α → Value) (h : ∀ x, VRel m (f x) (g x)) : ∀ l : List α, VRelL m (l.map f) (l.map g)
  | [] => .nil
  | x :: l => .cons (h x) (VRelL.map f g h l)
theorem VRelL.atoms {m : Mp} : ∀ {l : List Value}, (∀ v ∈ l, atomic v = true) → VRelL m l l
  | [], _ => .nil
  | _ :: _, h => .cons (.atom (h _ (by simp))) (VRelL.atoms fun u hu => h u (by simp [hu]))

theorem VRel.cells {m : Mp} {v v' : Value} (h : VRel m v v') : VRelL m (cellsOf v) v'.cells.toList := by
  cases h with
  | agg k => exact k
  | atom h => cases v <;> first | exact .cons (.atom h) .nil | simp [atomic] at h
  | ptr h => exact .cons (.ptr h) .nil
  | nilSlice => exact .cons .nilSlice .nil
  | sliceE h => exact .cons (.sliceE h) .nil
  | sliceI h a b c d => exact .cons (.sliceI h a b c d) .nil
  | void => exact .cons .void .nil
  | voidE => exact .cons .voidE .nil
  | map h => exact .cons (.map h) .nil
  | func h k => exact .cons (.func h k) .nil
  | iface h => exact .cons (.iface h) .nil
  | tuple h => exact .cons (.tuple h) .nil

theorem VRel.oneCell {m : Mp} {v v' : Value} (h : VRel m v v') : oneCell v = v'.oneCell' := by
  cases h <;> rfl
theorem VRelL.allOne {m : Mp} {l l' : List Value} (h : VRelL m l l') (ha : l.all Shade.oneCell = true) : ∀ v ∈ l', v.oneCell' = true := by
  induction l generalizing l' with
  | nil => cases h; simp
  | cons x l ih =>
    cases h with
    | cons h k =>
      simp only [List.all_cons, Bool.and_eq_true] at ha
      intro v hv
      rcases List.mem_cons.1 hv with rfl | hv
      · rw [← h.oneCell]; exact ha.1
      · exact ih k ha.2 v hv

/-- A row's cells, as they lie. -/
def RowRel (m : Mp) (cs : List Value) (c : Array Value) (off : Nat) : Prop := ∀ i v, cs[i]? = some v → ∃ v', c[off + i]? = some v' ∧ VRel m v v'

def NoFz (sz : Nat) (fz : Nat × Nat) : Prop := fz = (0, 0) ∨ sz ≤ fz.1

def liveIn (H : Tr AObj) (b : Nat) : Prop := ∃ o, H.get b = some o ∧ o ≠ .dead
def oldIn (H : Tr AObj) (a b : Nat) : Prop := ∃ cs rw old esz, H.get b = some (.cells cs rw old esz) ∧ a ∈ old

structure HRel (m : Mp) (H : Tr AObj) (w : World) (base : Nat) : Prop where
  bs : base ≤ w.heap.size
  cells : ∀ b cs rw old esz, H.get b = some (.cells cs rw old esz) → ∃ l c e fz, m b = some l ∧ l.esz = esz ∧ w.heap[l.cb]? = some (.cells c e fz) ∧ c.size = l.sz ∧
    l.off + cs.length ≤ l.sz ∧ RowRel m cs c l.off ∧ (rw = true → base ≤ l.cb ∧ NoFz c.size fz)
  iter : ∀ b s pos, H.get b = some (.iter s pos) → ∃ l, m b = some l ∧ l.off = 0 ∧ base ≤ l.cb ∧ w.heap[l.cb]? = some (.stringIter s pos)
  map : ∀ b es, H.get b = some (.map es) → ∃ l ces clock, m b = some l ∧ base ≤ l.cb ∧ w.heap[l.cb]? = some (.map ces clock) ∧ ces.size = es.length ∧
    ∀ (i : Nat) (p : Value × Value), es[i]? = some p → ∃ q : MapEntry, ces[i]? = some q ∧ VRel m p.1 q.key ∧ VRel m p.2 q.val
  sep : ∀ a b l k, liveIn H a → liveIn H b → a ≠ b → m a = some l → m b = some k → l.cb = k.cb → base ≤ l.cb → oldIn H a b ∨ oldIn H b a
  ends : ∀ a cs rw old esz b ds rw' old' esz' l k, H.get a = some (.cells cs rw old esz) → H.get b = some (.cells ds rw' old' esz') → a ∈ old' → m a = some l → m b = some k → l.cb = k.cb → l.off + cs.length ≤ k.off + ds.length
  olds : ∀ a b, oldIn H a b → ∃ l, m a = some l
  ro : ∀ a b, oldIn H a b → ∀ o, H.get a = some o → o = .dead ∨ ∃ cs old esz, o = .cells cs false old esz

theorem HRel.heap {m : Mp} {H : Tr AObj} {w w' : World} {base : Nat} (h : HRel m H w base) (e : w'.heap = w.heap) : HRel m H w' base :=
  ⟨by rw [e]; exact h.bs, by rw [e]; exact h.cells, by rw [e]; exact h.iter, by rw [e]; exact h.map, h.sep, h.ends, h.olds, h.ro⟩

theorem RowRel.mono {m m' : Mp} {cs : List Value} {c : Array Value} {off : Nat} (hm : MLe m m') (h : RowRel m cs c off) : RowRel m' cs c off :=
  fun i v e => let ⟨v', h1, h2⟩ := h i v e; ⟨v', h1, h2.mono hm⟩

/-- The heap as a map is what counts. -/
theorem HRel.same {m : Mp} {H K : Tr AObj} {w : World} {base : Nat} (h : HRel m H w base) (e : ∀ b, K.get b = H.get b) : HRel m K w base := by
  have ho : ∀ a b, oldIn K a b ↔ oldIn H a b := fun a b => by unfold oldIn; rw [e]
  refine ⟨h.bs, fun b => by rw [e]; exact h.cells b, fun b => by rw [e]; exact h.iter b, fun b => by rw [e]; exact h.map b, ?_, fun a cs rw old esz b ds rw' old' esz' => by rw [e, e]; exact h.ends a cs rw old esz b ds rw' old' esz', fun a b hab => h.olds a b ((ho a b).1 hab), ?_⟩
  · intro a b l k ha hb
    unfold liveIn at ha hb
    rw [e] at ha hb
    rw [ho, ho]
    exact h.sep a b l k ha hb
  · intro a b hab; rw [e]; exact h.ro a b ((ho a b).1 hab)

/-- Nothing of the map is lost or given anew but what is new. -/
def Ext (m m' : Mp) (n n' : Nat) : Prop := ∀ b, ¬ (n ≤ b ∧ b < n') → m' b = m b
def Fresh (m : Mp) (n n' : Nat) : Prop := ∀ b, n ≤ b → b < n' → m b = none
theorem Ext.refl (m : Mp) (n n' : Nat) : Ext m m n n' := fun _ _ => rfl
theorem Ext.le {m m' : Mp} {n n' : Nat} (h : Ext m m' n n') (hf : Fresh m n n') : MLe m m' := by
  intro b l e
  by_cases hb : n ≤ b ∧ b < n'
  · rw [hf b hb.1 hb.2] at e; cases e
  · rw [h b hb]; exact e
theorem Ext.trans {a b c : Mp} {n n1 n' : Nat} (h : Ext a b n n1) (k : Ext b c n1 n') (h1 : n ≤ n1) (h2 : n1 ≤ n') : Ext a c n n' := by
  intro x hx
  rw [k x (fun e => hx ⟨by omega, e.2⟩), h x (fun e => hx ⟨e.1, by omega⟩)]
theorem Fresh.left {m : Mp} {n n1 n' : Nat} (h : Fresh m n n') (h1 : n1 ≤ n') : Fresh m n n1 := fun b a c => h b a (by omega)
theorem Fresh.right {m m1 : Mp} {n n1 n' : Nat} (h : Fresh m n n') (e : Ext m m1 n n1) (h1 : n ≤ n1) : Fresh m1 n1 n' := fun b a c => by
  rw [e b (by omega)]; exact h b (by omega) c

/-- The number of the next object never falls. -/
def Mono {α : Type} (x : M α) : Prop := ∀ s a s', x s = some (a, s') → s.n ≤ s'.n
end Go.Shade

/- The number of the next object never falls, in any piece of the evaluator. -/
namespace Go.Shade
set_option linter.unusedVariables false
def MonoCall (call : CallSem) : Prop := ∀ f args p, Mono (call f args p)
section
variable {α β : Type}
theorem Mono.ret (a : α) : Mono (M.ret a) := fun s b s' h => by rw [(M.ret_some h).2]; exact Nat.le_refl _
theorem Mono.fail : Mono (M.fail : M α) := fun s b s' h => (M.fail_some h).elim
theorem Mono.opt (o : Option α) : Mono (M.opt o) := fun s b s' h => by rw [(M.opt_some h).2]; exact Nat.le_refl _
theorem Mono.bnd {x : M α} {f : α → M β} (hx : Mono x) (hf : ∀ a, Mono (f a)) : Mono (M.bnd x f) := fun s b s' h => by
  obtain ⟨a, s1, h1, h2⟩ := M.bnd_some h
  exact Nat.le_trans (hx _ _ _ h1) (hf _ _ _ _ h2)
theorem Mono.touch (b : Nat) (f : AObj → Option (α × Option AObj)) : Mono (touch b f) := by
  rintro ⟨n, H, lim, log⟩ a s' h
  obtain ⟨x, _, ⟨_, rfl⟩ | ⟨y, _, rfl⟩⟩ := touch_some h <;> exact Nat.le_refl _
theorem Mono.newObj (o : AObj) : Mono (newObj o) := by
  rintro ⟨n, H, lim, log⟩ a s' h
  simp only [Shade.newObj, force_eq, Option.some.injEq, Prod.mk.injEq] at h
  obtain ⟨_, rfl⟩ := h
  exact Nat.le_succ _
theorem Mono.getN : Mono getN := by
  rintro ⟨n, H, lim, log⟩ a s' h
  simp only [Shade.getN, Option.some.injEq, Prod.mk.injEq] at h
  obtain ⟨_, rfl⟩ := h
  exact Nat.le_refl _
theorem Mono.sub {x : M α} (hx : Mono x) : Mono (sub x) := by
  rintro ⟨n, H, lim, log⟩ a s' h
  obtain ⟨a, n1, H1, lim1, log1, h1, rfl, rfl⟩ := sub_some h
  have := hx _ _ _ h1; exact this
end
section
variable {α : Type}
theorem Mono.force {k : Nat → M α} (n : Nat) (h : ∀ n, Mono (k n)) : Mono (force n k) := by rw [force_eq]; exact h n
theorem Mono.kill : ∀ l, Mono (kill l)
  | [] => Mono.ret _
  | _ :: l => Mono.bnd (Mono.touch _ _) fun _ => Mono.kill l
end

theorem Mono.rdRow (b lo cnt : Nat) : Mono (rdRow b lo cnt) := Mono.touch _ _
theorem Mono.rdCell (b i : Nat) : Mono (rdCell b i) := Mono.touch _ _
theorem Mono.wrRow (b lo : Nat) (vs : List Value) : Mono (wrRow b lo vs) := by
  refine Mono.bnd (Mono.touch _ _) fun old => ?_
  cases old with
  | nil => exact Mono.ret _
  | cons o l => exact Mono.bnd (Mono.kill _) fun _ => Mono.bnd (Mono.touch _ _) fun _ => Mono.ret _
theorem Mono.newRow (cs : List Value) (old : List Nat) (esz : Nat) : Mono (newRow cs old esz) := by
  unfold Shade.newRow; split
  · exact Mono.newObj _
  · exact Mono.fail

section
variable (P : Program)
theorem Mono.loadV (t : TypeId) (b i : Nat) : Mono (loadV P t b i) := by
  unfold Shade.loadV
  repeat' split
  all_goals first | exact Mono.fail | exact Mono.rdCell _ _ | exact Mono.bnd (Mono.rdRow _ _ _) fun _ => Mono.ret _
theorem Mono.storeV (t : TypeId) (b i : Nat) (v : Value) : Mono (storeV P t b i v) := by
  unfold Shade.storeV
  repeat' split
  all_goals first | exact Mono.fail | exact Mono.wrRow _ _ _
theorem Mono.rdSlice (k : Nat) (x : Value) (n : Nat) : Mono (rdSlice k x n) := by
  unfold Shade.rdSlice
  repeat' split
  all_goals first | exact Mono.fail | exact Mono.rdRow _ _ _ | exact Mono.ret _
theorem Mono.grown (cs : List Value) (len k : Nat) (old : List Nat) : Mono (grown cs len k old) := by
  unfold Shade.grown; split <;> first | exact Mono.fail | exact Mono.bnd (Mono.newRow _ _ _) fun _ => Mono.ret _
theorem Mono.ownRow (b : Nat) : Mono (ownRow b) := Mono.touch _ _
theorem Mono.retire (k b upto : Nat) : Mono (retire k b upto) := Mono.touch _ _
theorem Mono.getMap (r : Nat) : Mono (getMap r) := Mono.touch _ _
theorem Mono.setMap (r : Nat) (es : List (Value × Value)) : Mono (setMap r es) := Mono.touch _ _
theorem Mono.convStr (dst : TypeId) (s : ByteArray) : Mono (convStr P dst s) := by
  unfold Shade.convStr
  repeat' split
  all_goals first | exact Mono.fail | exact Mono.ret _ | exact Mono.grown _ _ _ _
theorem Mono.convSlice (src dst : TypeId) (a : Option Addr) (n c : Nat) : Mono (convSlice P src dst a n c) := by
  unfold Shade.convSlice Shade.convRow
  repeat' split
  all_goals first | exact Mono.fail | exact Mono.bnd (Mono.rdSlice _ _ _) fun _ => Mono.opt _ | exact Mono.bnd (Mono.ownRow _) fun _ => Mono.ret _
theorem Mono.convV (src dst : TypeId) (x : Value) : Mono (convV P src dst x) := by
  unfold Shade.convV
  repeat' split
  all_goals first | exact Mono.fail | exact Mono.opt _ | exact Mono.convStr P _ _ | exact Mono.convSlice P _ _ _ _ _
theorem Mono.appIn (k : Nat) (a : Option Addr) (sLen n code : Nat) (new : List Value) : Mono (appIn k a sLen n code new) := by
  unfold Shade.appIn
  repeat' split
  all_goals first | exact Mono.fail | exact Mono.ret _ | exact Mono.bnd (Mono.wrRow _ _ _) fun _ => Mono.ret _
theorem Mono.appOut (k : Nat) (a : Option Addr) (sLen code n : Nat) (ex : Bool) (new old : List Value) : Mono (appOut k a sLen code n ex new old) := by
  unfold Shade.appOut
  repeat' split
  all_goals first | exact Mono.fail | exact Mono.grown _ _ _ _ | exact Mono.bnd (Mono.retire _ _ _) fun _ => Mono.grown _ _ _ _
theorem Mono.appRow (k bytes : Nat) (a : Option Addr) (sLen code n : Nat) (new : List Value) : Mono (appRow k bytes a sLen code n new) := by
  unfold Shade.appRow
  repeat' split
  all_goals first | exact Mono.fail | exact Mono.appIn _ _ _ _ _ _ | exact Mono.bnd (Mono.rdSlice _ _ _) fun _ => Mono.appOut _ _ _ _ _ _ _ _
theorem Mono.appendV (t : TypeId) (s x : Value) : Mono (appendV P t s x) := by
  unfold Shade.appendV
  repeat' split
  all_goals first | exact Mono.fail | exact Mono.bnd (Mono.rdSlice _ _ _) fun _ => Mono.appRow _ _ _ _ _ _ _
theorem Mono.copyRow (a : Option Addr) (n : Nat) (cs : List Value) : Mono (copyRow a n cs) := by
  unfold Shade.copyRow
  repeat' split
  all_goals first | exact Mono.fail | exact Mono.opt _ | exact Mono.bnd (Mono.wrRow _ _ _) fun _ => Mono.opt _
theorem Mono.copyV (t : TypeId) (d x : Value) : Mono (copyV P t d x) := by
  unfold Shade.copyV
  repeat' split
  all_goals first | exact Mono.fail | exact Mono.bnd (Mono.rdSlice _ _ _) fun _ => Mono.copyRow _ _ _
theorem Mono.builtinV (b : Builtin) (ts : List TypeId) (args : List Value) : Mono (builtinV P b ts args) := by
  unfold Shade.builtinV Shade.appB Shade.lenB Shade.clearB
  repeat' split
  all_goals first | exact Mono.fail | exact Mono.ret _ | exact Mono.opt _ | exact Mono.appendV P _ _ _ | exact Mono.copyV P _ _ _ | exact Mono.bnd (Mono.getMap _) fun _ => Mono.opt _ | exact Mono.bnd (Mono.setMap _ _) fun _ => Mono.ret _ | exact Mono.bnd (Mono.wrRow _ _ _) fun _ => Mono.ret _
theorem Mono.asVal {x : M Value} (h : Mono x) : Mono (asVal x) := Mono.bnd h fun _ => Mono.ret _
theorem Mono.ptrTo {x : M Nat} (h : Mono x) : Mono (ptrTo x) := Mono.bnd h fun _ => Mono.ret _
theorem Mono.optVal (o : Option Value) : Mono (optVal o) := by unfold Shade.optVal; split <;> first | exact Mono.ret _ | exact Mono.fail
theorem Mono.aggOf (o : Option (List Value)) : Mono (aggOf o) := by unfold Shade.aggOf; split <;> first | exact Mono.ret _ | exact Mono.fail
theorem Mono.found (et : TypeId) (ok : Bool) (r : Option (Nat × Value)) : Mono (found P et ok r) := by
  unfold Shade.found; repeat' split
  all_goals first | exact Mono.ret _ | exact Mono.fail
theorem Mono.lookIn (kt et : TypeId) (k : Value) (ok : Bool) (es : List (Value × Value)) : Mono (lookIn P kt et k ok es) := by
  unfold Shade.lookIn; repeat' split
  all_goals first | exact Mono.found P _ _ _ | exact Mono.fail
theorem Mono.storeIn (kt : TypeId) (r : Nat) (k x : Value) (es : List (Value × Value)) : Mono (storeIn P kt r k x es) := by
  unfold Shade.storeIn; repeat' split
  all_goals first | exact Mono.fail | exact Mono.bnd (Mono.setMap _ _) fun _ => Mono.ret _
theorem Mono.notThat (t : TypeId) (ok : Bool) : Mono (notThat P t ok) := by
  unfold Shade.notThat; repeat' split
  all_goals first | exact Mono.ret _ | exact Mono.fail
theorem Mono.entered (o : Option (FuncId × List Value)) : Mono (entered o) := by unfold Shade.entered; repeat' split <;> first | exact Mono.ret _ | exact Mono.fail
theorem Mono.deferred (o : Option (FuncId × List Value)) : Mono (deferred o) := by unfold Shade.deferred; repeat' split <;> first | exact Mono.ret _ | exact Mono.fail
theorem Mono.opPanic (x : Value) : Mono (opPanic x) := by unfold Shade.opPanic; split <;> first | exact Mono.ret _ | exact Mono.fail

theorem Mono.evOp (ρ : Operand → Value) (op : Op) : Mono (evOp P ρ op) := by
  cases op <;> simp only [Shade.evOp] <;> (try exact Mono.fail) <;> (try exact Mono.ret _) <;> (try exact Mono.optVal _) <;> (try exact Mono.opPanic _)
  case pick => unfold opPick; split <;> first | exact Mono.ret _ | exact Mono.fail
  case alloc => unfold opAlloc; split <;> first | exact Mono.ptrTo (Mono.newRow _ _ _) | exact Mono.fail
  case box => exact Mono.ptrTo (Mono.newRow _ _ _)
  case build => unfold opBuild; repeat' split
                all_goals first | exact Mono.aggOf _ | exact Mono.fail
  case buildSlice => unfold opBuildSlice; repeat' split
                     all_goals first | exact Mono.fail | exact Mono.bnd (Mono.newRow _ _ _) fun _ => Mono.ret _
  case load => unfold opLoad; split <;> first | exact Mono.fail | exact Mono.asVal (Mono.loadV P _ _ _)
  case store => unfold opStore; split <;> first | exact Mono.fail | exact Mono.bnd (Mono.storeV P _ _ _ _) fun _ => Mono.ret _
  case nilCheck => unfold opNilCheck; split <;> first | exact Mono.ret _ | exact Mono.fail
  case convert => exact Mono.asVal (Mono.convV P _ _ _)
  case makeInterface => unfold opIface; split <;> first | exact Mono.ret _ | exact Mono.fail
  case makeSlice => unfold opMakeSlice; repeat' split
                    all_goals first | exact Mono.fail | exact Mono.bnd (Mono.newRow _ _ _) fun _ => Mono.ret _
  case makeMap t r => cases r with
    | none => exact Mono.bnd (Mono.newObj _) fun _ => Mono.ret _
    | some _ => exact Mono.fail
  case slice => unfold opSlice; split <;> first | exact Mono.optVal _ | exact Mono.fail
  case fieldAddr => unfold opFieldAddr; repeat' split
                    all_goals first | exact Mono.fail | exact Mono.force _ fun _ => Mono.ret _
  case field => unfold opField; repeat' split
                all_goals first | exact Mono.fail | exact Mono.optVal _
  case indexAddr => unfold opIndexAddr ptrAt; repeat' split
                    all_goals first | exact Mono.fail | exact Mono.force _ fun _ => Mono.ret _
  case index => unfold opIndex; repeat' split
                all_goals first | exact Mono.fail | exact Mono.ret _ | exact Mono.optVal _
  case lookup => unfold opLookup; repeat' split
                 all_goals first | exact Mono.fail | exact Mono.lookIn P _ _ _ _ _ | exact Mono.bnd (Mono.getMap _) fun _ => Mono.lookIn P _ _ _ _ _
  case mapUpdate => unfold opMapUpdate; repeat' split
                    all_goals first | exact Mono.fail | exact Mono.bnd (Mono.getMap _) fun _ => Mono.storeIn P _ _ _ _ _
  case range => unfold opRange; repeat' split
                all_goals first | exact Mono.fail | exact Mono.ptrTo (Mono.newObj _)
  case next => unfold opNext nextAt; repeat' split
               all_goals first | exact Mono.fail | exact Mono.touch _ _
  case typeAssert => unfold opAssert assertTo; repeat' split
                     all_goals first | exact Mono.fail | exact Mono.ret _ | exact Mono.notThat P _ _
  case extract => unfold opExtract; split <;> first | exact Mono.fail | exact Mono.optVal _
  case call c =>
    unfold opCall; split
    · exact Mono.entered _
    · unfold opBuiltin; split <;> first | exact Mono.ret _ | exact Mono.opPanic _ | exact Mono.asVal (Mono.builtinV P _ _ _)
    · exact Mono.fail
  case defer c =>
    unfold opDefer; split
    · exact Mono.deferred _
    · exact Mono.fail
end
section
variable (P : Program) {call : CallSem}
theorem Mono.normed (o : Option Fr) : Mono (normed o) := by unfold Shade.normed; split <;> first | exact Mono.ret _ | exact Mono.fail
theorem Mono.called (fr : Fr) (dst : Option Tmp) (r : COut) : Mono (called fr dst r) := by
  cases r with
  | ret v _ => exact Mono.normed _
  | panic v => exact Mono.ret _
theorem Mono.seen (fr : Fr) (dst : Option Tmp) : Mono (seen fr dst) := by
  unfold Shade.seen; split <;> exact Mono.normed _
theorem Mono.after (hc : MonoCall call) (dst : Option Tmp) (fr : Fr) (r : Res) : Mono (after call dst fr r) := by
  cases r with
  | val v => exact Mono.normed _
  | enter f args => exact Mono.bnd (hc _ _ _) fun r => Mono.called _ _ _
  | panic v => exact Mono.ret _
  | defer f args => exact Mono.normed _
  | recover => exact Mono.seen _ _
theorem Mono.evOne (hc : MonoCall call) (ops : List Oper) (o : Oper) (fr : Fr) : Mono (evOne P call ops o fr) := by
  unfold Shade.evOne; split
  · exact Mono.normed _
  · exact Mono.bnd (Mono.evOp P _ _) fun r => Mono.after hc _ _ _
theorem Mono.evOps (hc : MonoCall call) (ops : List Oper) : ∀ l fr, Mono (evOps P call ops l fr)
  | [], _ => Mono.ret _
  | o :: l, fr => Mono.bnd (Mono.evOne P hc ops o fr) fun r => by
    obtain ⟨out, fr⟩ := r
    cases out <;> first | exact Mono.evOps hc ops l fr | exact Mono.ret _
theorem Mono.valOf (hc : MonoCall call) (r : Res) : Mono (valOf call r) := by
  cases r <;> first | exact Mono.ret _ | exact Mono.fail | skip
  exact Mono.bnd (hc _ _ _) fun r => by cases r <;> first | exact Mono.ret _ | exact Mono.fail
theorem Mono.evVal (hc : MonoCall call) (ops : List Oper) (o : Oper) (fr : Fr) : Mono (evVal P call ops o fr) := by
  unfold Shade.evVal; split
  · exact Mono.ret _
  · exact Mono.bnd (Mono.evOp P _ _) fun r => Mono.valOf hc r
theorem Mono.evDraw (hc : MonoCall call) (ops : List Oper) : ∀ l fr recs, Mono (evDraw P call ops l fr recs)
  | [], _, _ => Mono.ret _
  | o :: l, fr, recs => Mono.bnd (Mono.sub (Mono.evVal P hc ops o fr)) fun r => Mono.bnd (Mono.opt _) fun fr => Mono.evDraw hc ops l fr (r.2 :: recs)
theorem Mono.evRegion (hc : MonoCall call) (ops : List Oper) (draw : Bool) (fr : Fr) : Mono (evRegion P call ops draw fr) := by
  cases draw with
  | false => exact Mono.evOps P hc ops ops fr
  | true =>
    simp only [Shade.evRegion]
    refine Mono.bnd Mono.getN fun n0 => ?_
    refine Mono.bnd (Mono.evDraw P hc ops ops fr []) fun r => ?_
    unfold evDrawn
    split <;> first | exact Mono.ret _ | exact Mono.fail
theorem Mono.evLoop {body : Fr → M Ran} (hb : ∀ fr, Mono (body fr)) : ∀ k fr, Mono (evLoop body k fr)
  | 0, _ => Mono.fail
  | k + 1, fr => Mono.bnd (hb fr) fun r => by
    obtain ⟨out, fr⟩ := r
    cases out <;> first | exact Mono.evLoop hb k fr | exact Mono.ret _
theorem Mono.unblock (id : Nat) (r : Ran) : Mono (unblock id r) := by
  obtain ⟨out, fr⟩ := r
  cases out <;> simp only [Shade.unblock] <;> (try exact Mono.ret _)
  split <;> exact Mono.ret _
theorem Mono.evC (hc : MonoCall call) (lf : Nat) : ∀ c fr, Mono (evC P call lf c fr) := by
  intro c
  induction c with
  | skip => exact fun _ => Mono.ret _
  | label => exact fun _ => Mono.ret _
  | region id ops draw => exact fun fr => Mono.evRegion P hc _ _ fr
  | seq a b iha ihb =>
    refine fun fr => Mono.bnd (iha fr) fun r => ?_
    obtain ⟨out, fr⟩ := r
    cases out <;> first | exact ihb fr | exact Mono.ret _
  | cond c a b iha ihb =>
    intro fr
    simp only [Shade.evC]
    split <;> first | exact iha fr | exact ihb fr | exact Mono.fail
  | block id body ih => exact fun fr => Mono.bnd (ih fr) fun r => Mono.unblock id r
  | loop body ih => exact fun fr => Mono.evLoop ih lf fr
  | scope body ih => exact ih
  | exit id => exact fun _ => Mono.ret _
  | ret => exact fun _ => Mono.ret _
  | goto => exact fun _ => Mono.fail
  | rangeFunc => exact fun _ => Mono.fail
  | refuse => exact fun _ => Mono.fail
theorem Mono.evResults (T : Tr Value) : ∀ l, Mono (evResults P T l)
  | [] => Mono.ret _
  | .tmp t :: l => Mono.bnd (Mono.evResults T l) fun _ => Mono.ret _
  | .cell a t :: l => by
    simp only [Shade.evResults]
    split
    · exact Mono.bnd (Mono.loadV P _ _ _) fun _ => Mono.bnd (Mono.evResults T l) fun _ => Mono.ret _
    · exact Mono.fail
theorem Mono.evUnwind (hc : MonoCall call) (res : List ResultVar) (T : Tr Value) (recd : Bool) : ∀ ds p, Mono (evUnwind P call res T recd ds p)
  | [], none => Mono.bnd (Mono.evResults P T res) fun _ => Mono.ret _
  | [], some _ => Mono.ret _
  | (f, args) :: ds, p => Mono.bnd (hc f args p) fun r => by
    cases r with
    | ret v b => cases b <;> exact Mono.evUnwind hc res T recd ds _
    | panic v => exact Mono.fail
theorem Mono.leave (hc : MonoCall call) (res : List ResultVar) (r : Ran) : Mono (leave P call res r) := by
  obtain ⟨out, fr⟩ := r
  obtain ⟨T, nt, defs, pan, recd⟩ := fr
  cases out <;> first | exact Mono.evUnwind P hc _ _ _ _ _ | exact Mono.fail
theorem Mono.evF (lf : Nat) : ∀ d, MonoCall (evF P lf d)
  | 0 => fun _ _ _ => Mono.fail
  | d + 1 => fun f args p => by
    simp only [Shade.evF]
    split
    · unfold enterF
      split
      · exact Mono.bnd (Mono.evC P (Mono.evF lf d) lf _ _) fun r => Mono.leave P (Mono.evF lf d) _ r
      · exact Mono.fail
    · exact Mono.fail
end
end Go.Shade

/- How an abstract heap and a world stay together under what is read, written, made. -/
namespace Go.Shade
open Go.RowKit
set_option linter.unusedVariables false

def upd (m : Mp) (n : Nat) (l : Lc) : Mp := fun b => if b = n then some l else m b
theorem upd_eq (m : Mp) (n : Nat) (l : Lc) : upd m n l n = some l := by simp [upd]
theorem upd_ne (m : Mp) {n b : Nat} (l : Lc) (h : b ≠ n) : upd m n l b = m b := by simp [upd, h]
theorem upd_le {m : Mp} {n : Nat} {l : Lc} (h : m n = none) : MLe m (upd m n l) := by
  intro b k e
  rw [upd_ne _ _ (by intro e2; subst e2; rw [h] at e; cases e)]; exact e
theorem Ext.upd (m : Mp) (n : Nat) (l : Lc) : Ext m (upd m n l) n (n + 1) := fun b h => upd_ne _ _ (by omega)

/-- A block's object in another's place. -/
def putObj (w : World) (g : Nat) (o : Obj) : World := { w with heap := w.heap.setIfInBounds g o }
theorem putObj_same (w : World) (g : Nat) (o : Obj) (h : g < w.heap.size) : (putObj w g o).heap[g]? = some o := by simp [putObj, h]
theorem putObj_other (w : World) (g k : Nat) (o : Obj) (h : k ≠ g) : (putObj w g o).heap[k]? = w.heap[k]? := by
  simp [putObj, Array.getElem?_setIfInBounds_ne (Ne.symm h)]
theorem putObj_below (w : World) (base g : Nat) (o : Obj) (h : base ≤ g) : Below base w (putObj w g o) :=
  ⟨rfl, rfl, rfl, by simp [putObj], fun k hk => putObj_other _ _ _ _ (by omega)⟩

section
variable {m : Mp} {H : Tr AObj} {w : World} {base : Nat}

theorem HRel.live_lt (h : HRel m H w base) {b : Nat} (hb : liveIn H b) : ∃ l, m b = some l ∧ l.cb < w.heap.size := by
  obtain ⟨o, ho, hd⟩ := hb
  cases o with
  | dead => exact absurd rfl hd
  | cells cs rw old esz => obtain ⟨l, c, e, fz, h1, _, h3, _⟩ := h.cells _ _ _ _ _ ho; exact ⟨l, h1, (Array.getElem?_eq_some_iff.1 h3).1⟩
  | iter s pos => obtain ⟨l, h1, _, _, h3⟩ := h.iter _ _ _ ho; exact ⟨l, h1, (Array.getElem?_eq_some_iff.1 h3).1⟩
  | map es => obtain ⟨l, ces, clock, h1, _, h3, _⟩ := h.map _ _ ho; exact ⟨l, h1, (Array.getElem?_eq_some_iff.1 h3).1⟩

theorem HRel.not_live (h : HRel m H w base) {b : Nat} (hb : m b = none) : ¬ liveIn H b := fun hl => by
  obtain ⟨l, h1, _⟩ := h.live_lt hl
  rw [hb] at h1; cases h1

/-- An older object ends. -/
theorem HRel.kill1 (h : HRel m H w base) (o : Nat) : HRel m (H.set o .dead) w base := by
  have hne : ∀ {b x}, (H.set o .dead).get b = some x → x ≠ .dead → H.get b = some x ∧ b ≠ o := by
    intro b x e hx
    by_cases hb : b = o
    · subst hb; rw [Tr.get_set_eq] at e; cases e; exact absurd rfl hx
    · rw [Tr.get_set_ne _ _ hb] at e; exact ⟨e, hb⟩
  have hlive : ∀ {b}, liveIn (H.set o .dead) b → liveIn H b ∧ b ≠ o := by
    rintro b ⟨x, hx, hd⟩
    obtain ⟨h1, h2⟩ := hne hx hd
    exact ⟨⟨x, h1, hd⟩, h2⟩
  have hold : ∀ {a b}, oldIn (H.set o .dead) a b → oldIn H a b := by
    rintro a b ⟨cs, rw, old, esz, hx, ha⟩
    exact ⟨cs, rw, old, esz, (hne hx (by simp)).1, ha⟩
  refine ⟨h.bs, fun b cs rw old esz e => h.cells b cs rw old esz (hne e (by simp)).1, fun b s p e => h.iter b s p (hne e (by simp)).1, fun b es e => h.map b es (hne e (by simp)).1, ?_, ?_, fun a b hab => h.olds a b (hold hab), ?_⟩
  · intro a b l k ha hb hab hma hmb hcb hbase
    obtain ⟨ha1, ha2⟩ := hlive ha
    obtain ⟨hb1, hb2⟩ := hlive hb
    rcases h.sep a b l k ha1 hb1 hab hma hmb hcb hbase with ⟨cs, rw, old, esz, hx, hin⟩ | ⟨cs, rw, old, esz, hx, hin⟩
    · exact .inl ⟨cs, rw, old, esz, by rw [Tr.get_set_ne _ _ hb2]; exact hx, hin⟩
    · exact .inr ⟨cs, rw, old, esz, by rw [Tr.get_set_ne _ _ ha2]; exact hx, hin⟩
  · intro a cs rw old esz b ds rw' old' esz' l k ha hb
    exact h.ends a cs rw old esz b ds rw' old' esz' l k (hne ha (by simp)).1 (hne hb (by simp)).1
  · intro a b hab x hx
    by_cases hao : a = o
    · subst hao; rw [Tr.get_set_eq] at hx; cases hx; exact .inl rfl
    · rw [Tr.get_set_ne _ _ hao] at hx; exact h.ro a b (hold hab) x hx

/-- A row is read alone from here on. -/
theorem HRel.retire1 (h : HRel m H w base) {b : Nat} {cs : List Value} {rw : Bool} {old : List Nat} {esz : Nat} (hb : H.get b = some (.cells cs rw old esz)) :
    HRel m (H.set b (.cells cs false old esz)) w base := by
  have hget : ∀ {a x}, (H.set b (.cells cs false old esz)).get a = some x → (a = b ∧ x = .cells cs false old esz) ∨ (a ≠ b ∧ H.get a = some x) := by
    intro a x e
    by_cases ha : a = b
    · subst ha; rw [Tr.get_set_eq] at e; cases e; exact .inl ⟨rfl, rfl⟩
    · rw [Tr.get_set_ne _ _ ha] at e; exact .inr ⟨ha, e⟩
  have hold : ∀ {a c}, oldIn (H.set b (.cells cs false old esz)) a c ↔ oldIn H a c := by
    intro a c
    constructor
    · rintro ⟨cs', rw', old', esz', hx, hin⟩
      rcases hget hx with ⟨rfl, e⟩ | ⟨_, e⟩
      · cases e; exact ⟨_, _, _, _, hb, hin⟩
      · exact ⟨_, _, _, _, e, hin⟩
    · rintro ⟨cs', rw', old', esz', hx, hin⟩
      by_cases hc : c = b
      · subst hc; rw [hb] at hx; cases hx; exact ⟨_, _, _, _, Tr.get_set_eq _ _ _, hin⟩
      · exact ⟨_, _, _, _, by rw [Tr.get_set_ne _ _ hc]; exact hx, hin⟩
  have hlive : ∀ {a}, liveIn (H.set b (.cells cs false old esz)) a → liveIn H a := by
    rintro a ⟨x, hx, hd⟩
    rcases hget hx with ⟨rfl, e⟩ | ⟨_, e⟩
    · exact ⟨_, hb, by simp⟩
    · exact ⟨x, e, hd⟩
  refine ⟨h.bs, ?_, ?_, ?_, ?_, ?_, fun a c hac => h.olds a c (hold.1 hac), ?_⟩
  · intro a cs' rw' old' esz' ex
    rcases hget ex with ⟨rfl, e1⟩ | ⟨_, e⟩
    · cases e1
      obtain ⟨l, c, e, fz, h1, h2, h3, h4, h5, h6, h7⟩ := h.cells _ _ _ _ _ hb
      exact ⟨l, c, e, fz, h1, h2, h3, h4, h5, h6, by simp⟩
    · exact h.cells _ _ _ _ _ e
  · intro a s p e
    rcases hget e with ⟨_, e⟩ | ⟨_, e⟩
    · cases e
    · exact h.iter _ _ _ e
  · intro a es e
    rcases hget e with ⟨_, e⟩ | ⟨_, e⟩
    · cases e
    · exact h.map _ _ e
  · intro a c l k ha hc
    rw [hold, hold]
    exact h.sep a c l k (hlive ha) (hlive hc)
  · intro a cs1 rw1 old1 esz1 c ds rw' old' esz' l k ha hc
    have ha' : ∃ rw2 old2 esz2, H.get a = some (.cells cs1 rw2 old2 esz2) := by
      rcases hget ha with ⟨rfl, e⟩ | ⟨_, e⟩
      · cases e; exact ⟨_, _, _, hb⟩
      · exact ⟨_, _, _, e⟩
    obtain ⟨rw2, old2, esz2, ha'⟩ := ha'
    rcases hget hc with ⟨rfl, e⟩ | ⟨_, e⟩
    · cases e; exact h.ends a cs1 rw2 old2 esz2 _ _ _ _ _ l k ha' hb
    · exact h.ends a cs1 rw2 old2 esz2 _ _ _ _ _ l k ha' e
  · intro a c hac x hx
    rcases hget hx with ⟨rfl, e⟩ | ⟨_, e⟩
    · exact .inr ⟨_, _, _, e⟩
    · exact h.ro a c (hold.1 hac) x e

/-- The older objects of a row that is written are gone: nothing else that lives lies in its memory. -/
theorem HRel.alone (h : HRel m H w base) {b : Nat} {cs : List Value} {old : List Nat} {esz : Nat} (hb : H.get b = some (.cells cs true old esz))
    (hold : ∀ a ∈ old, ¬ liveIn H a) {l : Lc} (hl : m b = some l) {a : Nat} (ha : liveIn H a) (hab : a ≠ b) {k : Lc} (hk : m a = some k) : k.cb ≠ l.cb := by
  intro e
  obtain ⟨l', c, e', fz, h1, _, _, _, _, _, h7⟩ := h.cells _ _ _ _ _ hb
  rw [hl] at h1; cases h1
  have hbase := (h7 rfl).1
  rcases h.sep a b k l ha ⟨_, hb, by simp⟩ hab hk hl e (by rw [e]; exact hbase) with ⟨cs', rw', old', esz', hx, hin⟩ | hba
  · rw [hb] at hx; cases hx
    exact hold a hin ha
  · rcases h.ro b a hba _ hb with e2 | ⟨_, _, _, e2⟩ <;> cases e2

/-- A row of one's own, written over from a place on. -/
theorem HRel.write (h : HRel m H w base) {b : Nat} {cs cs' : List Value} {old : List Nat} {esz : Nat} (hb : H.get b = some (.cells cs true old esz))
    (hold : ∀ a ∈ old, ¬ liveIn H a) {l : Lc} (hl : m b = some l) {c c' : Array Value} {e : TypeId} {fz : Nat × Nat} (hg : w.heap[l.cb]? = some (.cells c e fz))
    (hs : c'.size = c.size) (hlen : cs'.length = cs.length) (hrow : RowRel m cs' c' l.off) :
    HRel m (H.set b (.cells cs' true [] esz)) (putObj w l.cb (.cells c' e fz)) base := by
  obtain ⟨l', c0, e0, fz0, h1, h2, h3, h4, h5, _, h7⟩ := h.cells _ _ _ _ _ hb
  rw [hl] at h1; cases h1
  rw [hg] at h3; cases h3
  have hlt := (Array.getElem?_eq_some_iff.1 hg).1
  have hal := fun a (ha : liveIn H a) (hab : a ≠ b) k (hk : m a = some k) => h.alone hb hold hl ha hab hk
  have hget : ∀ {a x}, (H.set b (.cells cs' true [] esz)).get a = some x → (a = b ∧ x = .cells cs' true [] esz) ∨ (a ≠ b ∧ H.get a = some x) := by
    intro a x e
    by_cases ha : a = b
    · subst ha; rw [Tr.get_set_eq] at e; cases e; exact .inl ⟨rfl, rfl⟩
    · rw [Tr.get_set_ne _ _ ha] at e; exact .inr ⟨ha, e⟩
  have hlive : ∀ {a}, liveIn (H.set b (.cells cs' true [] esz)) a → liveIn H a := by
    rintro a ⟨x, hx, hd⟩
    rcases hget hx with ⟨rfl, _⟩ | ⟨_, e⟩
    · exact ⟨_, hb, by simp⟩
    · exact ⟨x, e, hd⟩
  have holdn : ∀ {a c}, oldIn (H.set b (.cells cs' true [] esz)) a c → c ≠ b ∧ oldIn H a c := by
    rintro a c ⟨cs1, rw1, old1, esz1, hx, hin⟩
    rcases hget hx with ⟨_, e⟩ | ⟨hc, e⟩
    · cases e; cases hin
    · exact ⟨hc, _, _, _, _, e, hin⟩
  refine ⟨by simpa [putObj] using h.bs, ?_, ?_, ?_, ?_, ?_, fun a c hac => h.olds a c (holdn hac).2, ?_⟩
  · intro a cs1 rw1 old1 esz1 ex
    rcases hget ex with ⟨rfl, e1⟩ | ⟨ha, ex⟩
    · cases e1
      exact ⟨l, c', e, fz, hl, h2, putObj_same _ _ _ hlt, by rw [hs]; exact h4, by rw [hlen]; exact h5, hrow, fun _ => by rw [hs]; exact h7 rfl⟩
    · obtain ⟨k, d, e1, fz1, g1, g2, g3, g4, g5, g6, g7⟩ := h.cells _ _ _ _ _ ex
      exact ⟨k, d, e1, fz1, g1, g2, by rw [putObj_other _ _ _ _ (hal a ⟨_, ex, by simp⟩ ha k g1)]; exact g3, g4, g5, g6, g7⟩
  · intro a s p ex
    rcases hget ex with ⟨_, ex⟩ | ⟨ha, ex⟩
    · cases ex
    · obtain ⟨k, g1, g2, g3, g4⟩ := h.iter _ _ _ ex
      exact ⟨k, g1, g2, g3, by rw [putObj_other _ _ _ _ (hal a ⟨_, ex, by simp⟩ ha k g1)]; exact g4⟩
  · intro a es ex
    rcases hget ex with ⟨_, ex⟩ | ⟨ha, ex⟩
    · cases ex
    · obtain ⟨k, ces, clock, g1, g2, g3, g4⟩ := h.map _ _ ex
      exact ⟨k, ces, clock, g1, g2, by rw [putObj_other _ _ _ _ (hal a ⟨_, ex, by simp⟩ ha k g1)]; exact g3, g4⟩
  · intro a d k1 k2 ha hd had hka hkd hcb hbase
    by_cases hab : a = b
    · subst hab
      rw [hl] at hka; cases hka
      exact absurd hcb.symm (hal d (hlive hd) (Ne.symm had) k2 hkd)
    · by_cases hdb : d = b
      · subst hdb
        rw [hl] at hkd; cases hkd
        exact absurd hcb (hal a (hlive ha) had k1 hka)
      · rcases h.sep a d k1 k2 (hlive ha) (hlive hd) had hka hkd hcb hbase with ⟨cs1, rw1, old1, esz1, hx, hin⟩ | ⟨cs1, rw1, old1, esz1, hx, hin⟩
        · exact .inl ⟨_, _, _, _, by rw [Tr.get_set_ne _ _ hdb]; exact hx, hin⟩
        · exact .inr ⟨_, _, _, _, by rw [Tr.get_set_ne _ _ hab]; exact hx, hin⟩
  · intro a cs1 rw1 old1 esz1 d ds rw' old' esz' k1 k2 ha hd hin hka hkd hcb
    rcases hget hd with ⟨_, ex⟩ | ⟨hdb, ex⟩
    · cases ex; cases hin
    · rcases hget ha with ⟨rfl, ex2⟩ | ⟨hab, ex2⟩
      · cases ex2
        rcases h.ro a d ⟨_, _, _, _, ex, hin⟩ _ hb with e2 | ⟨_, _, _, e2⟩ <;> cases e2
      · exact h.ends a _ _ _ _ d _ _ _ _ k1 k2 ex2 ex hin hka hkd hcb
  · intro a d had x hx
    obtain ⟨hdb, hod⟩ := holdn had
    rcases hget hx with ⟨rfl, ex⟩ | ⟨_, ex⟩
    · rcases h.ro a d hod _ hb with e2 | ⟨_, _, _, e2⟩ <;> cases e2
    · exact h.ro a d hod x ex

/-- An object of one's own that is no row, in another form. -/
theorem HRel.turn (h : HRel m H w base) {b : Nat} {x y : AObj} (hb : H.get b = some x) {l : Lc} (hl : m b = some l) (hbase : base ≤ l.cb) {o : Obj}
    (hx : (∃ s p, x = .iter s p) ∨ ∃ es, x = .map es)
    (hy : (∃ s p, y = .iter s p ∧ l.off = 0 ∧ o = .stringIter s p) ∨ ∃ es ces clock, y = .map es ∧ o = .map ces clock ∧ ces.size = es.length ∧ ∀ (i : Nat) (p : Value × Value), es[i]? = some p → ∃ q : MapEntry, ces[i]? = some q ∧ VRel m p.1 q.key ∧ VRel m p.2 q.val) :
    HRel m (H.set b y) (putObj w l.cb o) base := by
  have hxd : x ≠ .dead := by rcases hx with ⟨s, p, rfl⟩ | ⟨es, rfl⟩ <;> simp
  have hyd : y ≠ .dead := by rcases hy with ⟨s, p, rfl, _⟩ | ⟨es, _, _, rfl, _⟩ <;> simp
  have hxc : ∀ cs rw old esz, x ≠ .cells cs rw old esz := by rcases hx with ⟨s, p, rfl⟩ | ⟨es, rfl⟩ <;> simp
  have hyc : ∀ cs rw old esz, y ≠ .cells cs rw old esz := by rcases hy with ⟨s, p, rfl, _⟩ | ⟨es, _, _, rfl, _⟩ <;> simp
  have hlivb : liveIn H b := ⟨x, hb, hxd⟩
  have hlt : l.cb < w.heap.size := by obtain ⟨l', h1, h2⟩ := h.live_lt hlivb; rw [hl] at h1; cases h1; exact h2
  have hnold : ∀ a, ¬ oldIn H b a := by
    intro a ha
    rcases h.ro b a ha _ hb with e | ⟨_, _, _, e⟩
    · exact hxd e
    · exact hxc _ _ _ _ e
  have hnold' : ∀ a, ¬ oldIn H a b := by
    rintro a ⟨_, _, _, _, e, _⟩
    rw [hb] at e; cases e; exact hxc _ _ _ _ rfl
  have hal : ∀ a, liveIn H a → a ≠ b → ∀ k, m a = some k → k.cb ≠ l.cb := by
    intro a ha hab k hk e
    rcases h.sep a b k l ha hlivb hab hk hl e (by rw [e]; exact hbase) with h1 | h1
    · exact hnold' _ h1
    · exact hnold _ h1
  have hget : ∀ {a z}, (H.set b y).get a = some z → (a = b ∧ z = y) ∨ (a ≠ b ∧ H.get a = some z) := by
    intro a z e
    by_cases ha : a = b
    · subst ha; rw [Tr.get_set_eq] at e; cases e; exact .inl ⟨rfl, rfl⟩
    · rw [Tr.get_set_ne _ _ ha] at e; exact .inr ⟨ha, e⟩
  have hlive : ∀ {a}, liveIn (H.set b y) a → liveIn H a := by
    rintro a ⟨z, hz, hd⟩
    rcases hget hz with ⟨rfl, _⟩ | ⟨_, e⟩
    · exact hlivb
    · exact ⟨z, e, hd⟩
  have hold : ∀ {a c}, oldIn (H.set b y) a c ↔ oldIn H a c := by
    intro a c
    constructor
    · rintro ⟨cs', rw', old', esz', hz, hin⟩
      rcases hget hz with ⟨_, e⟩ | ⟨_, e⟩
      · exact absurd e.symm (hyc _ _ _ _)
      · exact ⟨_, _, _, _, e, hin⟩
    · intro ho
      have ho' := ho
      obtain ⟨cs', rw', old', esz', hz, hin⟩ := ho'
      have hcb : c ≠ b := fun e => by subst e; exact hnold' _ ho
      exact ⟨_, _, _, _, by rw [Tr.get_set_ne _ _ hcb]; exact hz, hin⟩
  refine ⟨by simpa [putObj] using h.bs, ?_, ?_, ?_, ?_, ?_, fun a c hac => h.olds a c (hold.1 hac), ?_⟩
  · intro a cs rw old esz ex
    rcases hget ex with ⟨_, e⟩ | ⟨ha, ex⟩
    · exact absurd e.symm (hyc _ _ _ _)
    · obtain ⟨k, d, e1, fz1, g1, g2, g3, g4⟩ := h.cells _ _ _ _ _ ex
      exact ⟨k, d, e1, fz1, g1, g2, by rw [putObj_other _ _ _ _ (hal a ⟨_, ex, by simp⟩ ha k g1)]; exact g3, g4⟩
  · intro a s p ex
    rcases hget ex with ⟨rfl, e⟩ | ⟨ha, ex⟩
    · rcases hy with ⟨s', p', rfl, ho, rfl⟩ | ⟨es, _, _, rfl, _⟩
      · cases e; exact ⟨l, hl, ho, hbase, putObj_same _ _ _ hlt⟩
      · cases e
    · obtain ⟨k, g1, g2, g3, g4⟩ := h.iter _ _ _ ex
      exact ⟨k, g1, g2, g3, by rw [putObj_other _ _ _ _ (hal a ⟨_, ex, by simp⟩ ha k g1)]; exact g4⟩
  · intro a es ex
    rcases hget ex with ⟨rfl, e⟩ | ⟨ha, ex⟩
    · rcases hy with ⟨s', p', rfl, ho, rfl⟩ | ⟨es', ces, clock, rfl, rfl, hsz, hall⟩
      · cases e
      · cases e; exact ⟨l, ces, clock, hl, hbase, putObj_same _ _ _ hlt, hsz, hall⟩
    · obtain ⟨k, ces, clock, g1, g2, g3, g4⟩ := h.map _ _ ex
      exact ⟨k, ces, clock, g1, g2, by rw [putObj_other _ _ _ _ (hal a ⟨_, ex, by simp⟩ ha k g1)]; exact g3, g4⟩
  · intro a c k1 k2 ha hc
    rw [hold, hold]
    exact h.sep a c k1 k2 (hlive ha) (hlive hc)
  · intro a cs1 rw1 old1 esz1 c ds rw' old' esz' k1 k2 ha hc
    rcases hget ha with ⟨_, e⟩ | ⟨_, ea⟩
    · exact absurd e.symm (hyc _ _ _ _)
    · rcases hget hc with ⟨_, e⟩ | ⟨_, ec⟩
      · exact absurd e.symm (hyc _ _ _ _)
      · exact h.ends a _ _ _ _ c _ _ _ _ k1 k2 ea ec
  · intro a c hac z hz
    rcases hget hz with ⟨rfl, _⟩ | ⟨_, e⟩
    · exact absurd (hold.1 hac) (hnold _)
    · exact h.ro a c (hold.1 hac) z e

/-- A new object, in a block or in the spare room behind a row that is read alone from here on. 'co': what the block holds. -/
theorem HRel.new (h : HRel m H w base) {n : Nat} (hn : m n = none) {w' : World} {l : Lc} {o : AObj} (hbelow : base ≤ w'.heap.size)
    (hkeep : ∀ a, liveIn H a → ∀ k, m a = some k → w'.heap[k.cb]? = w.heap[k.cb]? ∨ (k.cb = l.cb ∧ ∃ c c' e fz, w.heap[k.cb]? = some (.cells c e fz) ∧ w'.heap[k.cb]? = some (.cells c' e fz) ∧ c'.size = c.size ∧
      ∀ cs rw old esz, H.get a = some (.cells cs rw old esz) → rw = false ∧ ∀ j, j < k.off + cs.length → c'[j]? = c[j]?))
    (hdead : o ≠ .dead)
    (hc : ∀ cs rw old esz, o = .cells cs rw old esz → l.esz = esz ∧ ∃ c e fz, w'.heap[l.cb]? = some (.cells c e fz) ∧ c.size = l.sz ∧ l.off + cs.length ≤ l.sz ∧ RowRel m cs c l.off ∧ (rw = true → base ≤ l.cb ∧ NoFz c.size fz))
    (hi : ∀ s p, o = .iter s p → l.off = 0 ∧ base ≤ l.cb ∧ w'.heap[l.cb]? = some (.stringIter s p))
    (hm : ∀ es, o = .map es → ∃ ces clock, base ≤ l.cb ∧ w'.heap[l.cb]? = some (.map ces clock) ∧ ces.size = es.length ∧ ∀ (i : Nat) (p : Value × Value), es[i]? = some p → ∃ q : MapEntry, ces[i]? = some q ∧ VRel m p.1 q.key ∧ VRel m p.2 q.val)
    (hsep : ∀ a k, liveIn H a → m a = some k → k.cb = l.cb → base ≤ l.cb → ∃ cs rw old esz, o = .cells cs rw old esz ∧ a ∈ old)
    (hends : ∀ cs rw old esz, o = .cells cs rw old esz → ∀ a ∈ old, ∀ ds rw' old' esz' k, H.get a = some (.cells ds rw' old' esz') → m a = some k → k.cb = l.cb → k.off + ds.length ≤ l.off + cs.length)
    (hro : ∀ cs rw old esz, o = .cells cs rw old esz → ∀ a ∈ old, (∃ k, m a = some k) ∧ ∀ x, H.get a = some x → x = .dead ∨ ∃ cs' old' esz', x = .cells cs' false old' esz') :
    HRel (upd m n l) (H.set n o) w' base := by
  have hle := upd_le (l := l) hn
  have hnl : ¬ liveIn H n := h.not_live hn
  have hget : ∀ {a x}, (H.set n o).get a = some x → (a = n ∧ x = o) ∨ (a ≠ n ∧ H.get a = some x) := by
    intro a x e
    by_cases ha : a = n
    · subst ha; rw [Tr.get_set_eq] at e; cases e; exact .inl ⟨rfl, rfl⟩
    · rw [Tr.get_set_ne _ _ ha] at e; exact .inr ⟨ha, e⟩
  have hlive : ∀ {a}, liveIn (H.set n o) a → a = n ∨ (a ≠ n ∧ liveIn H a) := by
    rintro a ⟨x, hx, hd⟩
    rcases hget hx with ⟨rfl, _⟩ | ⟨ha, e⟩
    · exact .inl rfl
    · exact .inr ⟨ha, x, e, hd⟩
  have hnold : ∀ a, ¬ oldIn H n a := fun a ha => by
    obtain ⟨k, hk⟩ := h.olds n a ha
    rw [hn] at hk; cases hk
  have hnin : ∀ cs rw old esz, o = .cells cs rw old esz → n ∉ old := fun cs rw old esz e hin => by
    obtain ⟨⟨k, hk⟩, _⟩ := hro _ _ _ _ e n hin
    rw [hn] at hk; cases hk
  refine ⟨hbelow, ?_, ?_, ?_, ?_, ?_, ?_, ?_⟩
  · intro a cs rw old esz ex
    rcases hget ex with ⟨rfl, e⟩ | ⟨ha, ex⟩
    · obtain ⟨g1, c, e1, fz, g2, g3, g4, g5, g6⟩ := hc _ _ _ _ e.symm
      exact ⟨l, c, e1, fz, upd_eq _ _ _, g1, g2, g3, g4, g5.mono hle, g6⟩
    · obtain ⟨k, d, e1, fz1, g1, g2, g3, g4, g5, g6, g7⟩ := h.cells _ _ _ _ _ ex
      rcases hkeep a ⟨_, ex, by simp⟩ k g1 with hk | ⟨_, c, c', e2, fz2, k1, k2, k3, k4⟩
      · exact ⟨k, d, e1, fz1, by rw [upd_ne _ _ ha]; exact g1, g2, by rw [hk]; exact g3, g4, g5, g6.mono hle, g7⟩
      · rw [g3] at k1
        simp only [Option.some.injEq, Obj.cells.injEq] at k1
        obtain ⟨rfl, rfl, rfl⟩ := k1
        obtain ⟨hrw, hcells⟩ := k4 _ _ _ _ ex
        refine ⟨k, c', e1, fz1, by rw [upd_ne _ _ ha]; exact g1, g2, k2, by rw [k3]; exact g4, g5, ?_, fun hr => by rw [hrw] at hr; cases hr⟩
        intro i v hv
        obtain ⟨v', hv', hr⟩ := g6 i v hv
        refine ⟨v', ?_, hr.mono hle⟩
        rw [hcells _ (by have := (List.getElem?_eq_some_iff.1 hv).1; omega)]; exact hv'
  · intro a s p ex
    rcases hget ex with ⟨rfl, e⟩ | ⟨ha, ex⟩
    · obtain ⟨g1, g2, g3⟩ := hi _ _ e.symm
      exact ⟨l, upd_eq _ _ _, g1, g2, g3⟩
    · obtain ⟨k, g1, g2, g3, g4⟩ := h.iter _ _ _ ex
      rcases hkeep a ⟨_, ex, by simp⟩ k g1 with hk | ⟨_, c, c', e2, fz2, k1, _⟩
      · exact ⟨k, by rw [upd_ne _ _ ha]; exact g1, g2, g3, by rw [hk]; exact g4⟩
      · rw [g4] at k1; cases k1
  · intro a es ex
    rcases hget ex with ⟨rfl, e⟩ | ⟨ha, ex⟩
    · obtain ⟨ces, clock, g1, g2, g3, g4⟩ := hm _ e.symm
      exact ⟨l, ces, clock, upd_eq _ _ _, g1, g2, g3, fun i p hp => let ⟨q, a1, a2, a3⟩ := g4 i p hp; ⟨q, a1, a2.mono hle, a3.mono hle⟩⟩
    · obtain ⟨k, ces, clock, g1, g2, g3, g4, g5⟩ := h.map _ _ ex
      rcases hkeep a ⟨_, ex, by simp⟩ k g1 with hk | ⟨_, c, c', e2, fz2, k1, _⟩
      · exact ⟨k, ces, clock, by rw [upd_ne _ _ ha]; exact g1, g2, by rw [hk]; exact g3, g4, fun i p hp => let ⟨q, a1, a2, a3⟩ := g5 i p hp; ⟨q, a1, a2.mono hle, a3.mono hle⟩⟩
      · rw [g3] at k1; cases k1
  · intro a b k1 k2 ha hb hab hka hkb hcb hbase
    rcases hlive ha with han | ⟨han, ha'⟩
    · rcases hlive hb with hbn | ⟨hbn, hb'⟩
      · exact absurd (han.trans hbn.symm) hab
      · rw [han, upd_eq] at hka; cases hka
        rw [upd_ne _ _ hbn] at hkb
        obtain ⟨cs, rw, old, esz, e, hin⟩ := hsep b k2 hb' hkb hcb.symm hbase
        exact .inr ⟨cs, rw, old, esz, by rw [han, Tr.get_set_eq, e], hin⟩
    · rw [upd_ne _ _ han] at hka
      rcases hlive hb with hbn | ⟨hbn, hb'⟩
      · rw [hbn, upd_eq] at hkb; cases hkb
        obtain ⟨cs, rw, old, esz, e, hin⟩ := hsep a k1 ha' hka hcb (by rw [← hcb]; exact hbase)
        exact .inl ⟨cs, rw, old, esz, by rw [hbn, Tr.get_set_eq, e], hin⟩
      · rw [upd_ne _ _ hbn] at hkb
        rcases h.sep a b k1 k2 ha' hb' hab hka hkb hcb hbase with ⟨cs, rw, old, esz, hx, hin⟩ | ⟨cs, rw, old, esz, hx, hin⟩
        · exact .inl ⟨_, _, _, _, by rw [Tr.get_set_ne _ _ hbn]; exact hx, hin⟩
        · exact .inr ⟨_, _, _, _, by rw [Tr.get_set_ne _ _ han]; exact hx, hin⟩
  · intro a cs rw old esz b ds rw' old' esz' k1 k2 ha hb hin hka hkb hcb
    rcases hget hb with ⟨hbn, e⟩ | ⟨hbn, eb⟩
    · rw [hbn, upd_eq] at hkb; cases hkb
      rcases hget ha with ⟨han, e2⟩ | ⟨han, ea⟩
      · rw [han] at hin; exact absurd hin (hnin _ _ _ _ e.symm)
      · rw [upd_ne _ _ han] at hka
        exact hends _ _ _ _ e.symm a hin _ _ _ _ k1 ea hka hcb
    · rw [upd_ne _ _ hbn] at hkb
      rcases hget ha with ⟨han, e2⟩ | ⟨han, ea⟩
      · rw [han] at hin; exact absurd ⟨_, _, _, _, eb, hin⟩ (hnold b)
      · rw [upd_ne _ _ han] at hka
        exact h.ends a _ _ _ _ b _ _ _ _ k1 k2 ea eb hin hka hkb hcb
  · intro a b hab
    obtain ⟨cs, rw, old, esz, hb, hin⟩ := hab
    rcases hget hb with ⟨hbn, e⟩ | ⟨hbn, eb⟩
    · obtain ⟨⟨k, hk⟩, _⟩ := hro _ _ _ _ e.symm a hin
      exact ⟨k, hle _ _ hk⟩
    · obtain ⟨k, hk⟩ := h.olds a b ⟨_, _, _, _, eb, hin⟩
      exact ⟨k, hle _ _ hk⟩
  · intro a b hab x hx
    obtain ⟨cs, rw, old, esz, hb, hin⟩ := hab
    rcases hget hb with ⟨hbn, e⟩ | ⟨hbn, eb⟩
    · rcases hget hx with ⟨han, e2⟩ | ⟨han, ex⟩
      · rw [han] at hin; exact absurd hin (hnin _ _ _ _ e.symm)
      · exact (hro _ _ _ _ e.symm a hin).2 x ex
    · rcases hget hx with ⟨han, e2⟩ | ⟨han, ex⟩
      · rw [han] at hin; exact absurd ⟨_, _, _, _, eb, hin⟩ (hnold b)
      · exact h.ro a b ⟨_, _, _, _, eb, hin⟩ x ex
end
end Go.Shade

/- The evaluator's pieces beside the model's: rows read, written, made. -/
namespace Go.Shade
open Go.RowKit
set_option linter.unusedVariables false

structure Step (base : Nat) (m m' : Mp) (n n' : Nat) (H' : Tr AObj) (w w' : World) : Prop where
  ext : Ext m m' n n'
  rel : HRel m' H' w' base
  below : Below base w w'

/-- Whatever the one yields, the other yields the like. -/
def Sim {α β : Type} (P : Program) (base : Nat) (m : Mp) (s : S) (w : World) (x : M α) (y : Sem β) (R : Mp → α → β → Prop) : Prop :=
  ∀ a s', x s = some (a, s') → Fresh m s.n s'.n → ∃ m' b w', y.run P w = .ok b w' ∧ Step base m m' s.n s'.n s'.H w w' ∧ R m' a b

theorem Below.refl' (base : Nat) (w : World) : Below base w w := Below.refl _ _

section
variable {α β γ δ : Type} {P : Program} {base : Nat} {m : Mp} {s : S} {w : World}

theorem Step.refl (h : HRel m s.H w base) : Step base m m s.n s.n s.H w w := ⟨Ext.refl _ _ _, h, Below.refl _ _⟩

theorem Sim.ret {a : α} {b : β} {R : Mp → α → β → Prop} (h : HRel m s.H w base) (hr : R m a b) : Sim P base m s w (M.ret a) (pure b) R := by
  intro a' s' e hf
  obtain ⟨rfl, rfl⟩ := M.ret_some e
  exact ⟨m, b, w, rfl, Step.refl h, hr⟩
theorem Sim.fail {y : Sem β} {R : Mp → α → β → Prop} : Sim P base m s w (M.fail : M α) y R := fun a s' e => (M.fail_some e).elim

theorem Sim.bnd {x : M α} {f : α → M γ} {y : Sem β} {g : β → Sem δ} {R : Mp → α → β → Prop} {R' : Mp → γ → δ → Prop} (hx : Sim P base m s w x y R) (mx : Mono x) (mf : ∀ a, Mono (f a))
    (hf : ∀ a b s1 m1 w1, x s = some (a, s1) → MLe m m1 → HRel m1 s1.H w1 base → R m1 a b → Sim P base m1 s1 w1 (f a) (g b) R') : Sim P base m s w (M.bnd x f) (y >>= g) R' := by
  intro c s' e hfr
  obtain ⟨a, s1, h1, h2⟩ := M.bnd_some e
  have l1 := mx _ _ _ h1
  have l2 := mf _ _ _ _ h2
  obtain ⟨m1, b, w1, r1, st1, hR⟩ := hx a s1 h1 (hfr.left l2)
  obtain ⟨m2, d, w2, r2, st2, hR'⟩ := hf a b s1 m1 w1 h1 (st1.ext.le (hfr.left l2)) st1.rel hR c s' h2 (hfr.right st1.ext l1)
  exact ⟨m2, d, w2, by rw [Sem.run_bind, r1]; exact r2, ⟨st1.ext.trans st2.ext l1 l2, st2.rel, st1.below.trans st2.below⟩, hR'⟩

theorem Sim.imp {x : M α} {y : Sem β} {R R' : Mp → α → β → Prop} (h : Sim P base m s w x y R) (hr : ∀ m a b, R m a b → R' m a b) : Sim P base m s w x y R' := by
  intro a s' e hf
  obtain ⟨m', b, w', h1, h2, h3⟩ := h a s' e hf
  exact ⟨m', b, w', h1, h2, hr _ _ _ h3⟩

/-- The other is the like of another one. -/
theorem Sim.run {x : M α} {y y' : Sem β} {R : Mp → α → β → Prop} (h : Sim P base m s w x y R) (e : y'.run P w = y.run P w) : Sim P base m s w x y' R := by
  intro a s' ex hf
  obtain ⟨m', b, w', h1, h2, h3⟩ := h a s' ex hf
  exact ⟨m', b, w', by rw [e]; exact h1, h2, h3⟩

/-- What stands behind a value that is only turned. -/
theorem Sim.map {x : M α} {y : Sem β} {f : α → γ} {g : β → δ} {R : Mp → α → β → Prop} {R' : Mp → γ → δ → Prop} (h : Sim P base m s w x y R) (hr : ∀ m a b, R m a b → R' m (f a) (g b)) :
    Sim P base m s w (M.bnd x fun a => M.ret (f a)) (y >>= fun b => pure (g b)) R' := by
  intro c s' e hf
  obtain ⟨a, s1, h1, h2⟩ := M.bnd_some e
  obtain ⟨rfl, rfl⟩ := M.ret_some h2
  obtain ⟨m', b, w', r1, st, hR⟩ := h a s' h1 hf
  exact ⟨m', g b, w', by rw [Sem.run_bind, r1]; rfl, st, hr _ _ _ hR⟩

theorem Addr.add_plain (b i j : Nat) : (⟨b, i, none⟩ : Addr).add j = ⟨b, i + j, none⟩ := by unfold Addr.add; split <;> simp_all

theorem cell_of {g i : Nat} {c : Array Value} {e : TypeId} {fz : Nat × Nat} (h : w.heap[g]? = some (.cells c e fz)) : w.cell? ⟨g, i, none⟩ = c[i]? := by
  simp [World.cell?, h]
theorem frozen_of {g i : Nat} {c : Array Value} {e : TypeId} {fz : Nat × Nat} (h : w.heap[g]? = some (.cells c e fz)) (hz : NoFz c.size fz) (hi : i < c.size) : w.frozen? ⟨g, i, none⟩ = false := by
  obtain ⟨lo, hi'⟩ := fz
  simp only [World.frozen?, h]
  simp only [Bool.and_eq_false_imp, decide_eq_true_eq, decide_eq_false_iff_not]
  rcases hz with hz | hz
  · cases hz; omega
  · simp only at hz; omega

theorem putObj_self {g : Nat} {o : Obj} (h : w.heap[g]? = some o) : putObj w g o = w := by
  unfold putObj
  congr 1
  obtain ⟨h1, h2⟩ := Array.getElem?_eq_some_iff.1 h
  apply Array.ext
  · simp
  · intro i hi hi'
    rw [Array.getElem_setIfInBounds]
    split
    · rename_i e; subst e; exact h2.symm
    · rfl
theorem putObj_twice (g : Nat) (o o' : Obj) : putObj (putObj w g o) g o' = putObj w g o' := by
  simp [putObj]
theorem setCell_put {g i : Nat} {c : Array Value} {e : TypeId} {fz : Nat × Nat} {v : Value} (h : w.heap[g]? = some (.cells c e fz)) :
    w.setCell ⟨g, i, none⟩ v = putObj w g (.cells (c.setIfInBounds i v) e fz) := by
  obtain ⟨h1, h2⟩ := Array.getElem?_eq_some_iff.1 h
  unfold World.setCell putObj
  congr 1
  apply Array.ext
  · simp
  · intro j hj hj'
    rw [Array.getElem_modify, Array.getElem_setIfInBounds]
    split
    · rename_i e; subst e; rw [h2]; simp
    · rfl

theorem run_storeCells (P : Program) (g o : Nat) (e : TypeId) (fz : Nat × Nat) : ∀ (vs : List Value) (i : Nat) (c : Array Value) (w : World), w.heap[g]? = some (.cells c e fz) → o + i + vs.length ≤ c.size →
    NoFz c.size fz → (∀ v ∈ vs, v.oneCell' = true) →
    ∃ c', (storeCells ⟨g, o, none⟩ vs i).run P w = .ok () (putObj w g (.cells c' e fz)) ∧ c'.size = c.size ∧ ∀ j, c'[j]? = if o + i ≤ j ∧ j < o + i + vs.length then vs[j - (o + i)]? else c[j]?
  | [], i, c, w, hg, _, _, _ => by
    refine ⟨c, by rw [putObj_self hg]; rfl, rfl, fun j => ?_⟩
    rw [if_neg (by simp)]
  | v :: vs, i, c, w, hg, hl, hz, h1 => by
    simp only [List.length_cons] at hl
    have hlt : o + i < c.size := by omega
    have hc : w.cell? ((⟨g, o, none⟩ : Addr).add i) = some c[o + i] := by rw [Addr.add_plain, cell_of hg, Array.getElem?_eq_getElem hlt]
    have hfz : w.frozen? ((⟨g, o, none⟩ : Addr).add i) = false := by rw [Addr.add_plain]; exact frozen_of hg hz hlt
    have hst : (store ((⟨g, o, none⟩ : Addr).add i) v).run P w = .ok () (putObj w g (.cells (c.setIfInBounds (o + i) v) e fz)) := by
      rw [run_store P w _ v .plain (h1 v (by simp)), hc, hfz, Addr.add_plain, setCell_put hg]
      rfl
    have hg' : (putObj w g (.cells (c.setIfInBounds (o + i) v) e fz)).heap[g]? = some (.cells (c.setIfInBounds (o + i) v) e fz) := putObj_same _ _ _ (Array.getElem?_eq_some_iff.1 hg).1
    obtain ⟨c', r, hs, hj⟩ := run_storeCells P g o e fz vs (i + 1) _ _ hg' (by simp; omega) (by simpa using hz) (fun u hu => h1 u (by simp [hu]))
    refine ⟨c', ?_, by rw [hs]; simp, fun j => ?_⟩
    · simp only [storeCells, Sem.run_bind, hst, Result.andThen_ok, r, putObj_twice]
    · rw [hj j, Array.getElem?_setIfInBounds]
      simp only [List.length_cons]
      by_cases a1 : j = o + i
      · subst a1
        rw [if_neg (by omega), if_pos rfl, if_pos hlt, if_pos (by omega)]; simp
      · by_cases a2 : o + (i + 1) ≤ j ∧ j < o + (i + 1) + vs.length
        · rw [if_pos a2, if_pos (by omega), show j - (o + i) = (j - (o + (i + 1))) + 1 from by omega]; simp
        · rw [if_neg a2, if_neg (by omega), if_neg (by omega)]

theorem rd_rdRow (h : HRel m s.H w base) {b i k : Nat} {l : Lc} (hl : m b = some l) {r : List Value} {s' : S} (e : rdRow b i k s = some (r, s')) :
    ∃ log' arr, s' = ⟨s.n, s.H, s.lim, log'⟩ ∧ (∀ w1 : World, w1.heap = w.heap → (loadCells ⟨l.cb, l.off + i, none⟩ k).run P w1 = .ok arr w1) ∧ VRelL m r arr.toList ∧ r.length = k ∧ ∀ j, j < k → arr[j]? = w.cell? ⟨l.cb, l.off + i + j, none⟩ := by
  obtain ⟨n, H, lim, log⟩ := s
  obtain ⟨x, hx, hh⟩ := touch_some e
  obtain ⟨cs, rw, old, esz, rfl, hr, hs⟩ : ∃ cs rw old esz, x = .cells cs rw old esz ∧ rowOf cs i k = some r ∧ s' = ⟨n, H, lim, note b lim log false⟩ := by
    rcases hh with ⟨hh, hs⟩ | ⟨y, hh, hs⟩ <;> cases x <;> simp only [seenO] at hh <;> (try cases hh)
    · rename_i cs rw old esz
      cases hq : rowOf cs i k with
      | none => simp [hq] at hh
      | some q => simp only [hq, Option.some.injEq, Prod.mk.injEq, and_true] at hh; subst hh; exact ⟨cs, rw, old, esz, rfl, hq, hs⟩
    · split at hh <;> cases hh
  subst hs
  obtain ⟨l', c, e1, fz, h1, h2, h3, h4, h5, h6, h7⟩ := h.cells _ _ _ _ _ hx
  rw [hl] at h1; cases h1
  have hlen := rowOf_length hr
  have hrow := rowOf_eq hr
  -- the cells as they lie
  have hex : ∀ j, j < k → ∃ v', c[l.off + i + j]? = some v' ∧ ∀ v, r[j]? = some v → VRel m v v' := by
    intro j hj
    have hq := rowOf_get hr j hj
    obtain ⟨v, hv⟩ : ∃ v, r[j]? = some v := ⟨r[j]'(by omega), List.getElem?_eq_getElem _⟩
    obtain ⟨v', a1, a2⟩ := h6 (i + j) v (by rw [← hq]; exact hv)
    exact ⟨v', by rw [Nat.add_assoc]; exact a1, fun u hu => by rw [hv] at hu; cases hu; exact a2⟩
  let f : Nat → Value := fun j => (c[l.off + i + j]?).getD undef
  have hf1 : ∀ j, j < k → w.cell? ((⟨l.cb, l.off + i, none⟩ : Addr).add j) = some (f j) := by
    intro j hj
    obtain ⟨v', a1, _⟩ := hex j hj
    rw [Addr.add_plain, cell_of h3, a1]; simp [f, a1]
  have hrun : ∀ w1 : World, w1.heap = w.heap → (loadCells ⟨l.cb, l.off + i, none⟩ k).run P w1 = .ok ((List.range k).map f).toArray w1 := fun w1 e1 =>
    run_loadCells (P := P) w1 ⟨l.cb, l.off + i, none⟩ k f fun j hj => by have := hf1 j hj; simp only [World.cell?, e1] at this ⊢; exact this
  refine ⟨_, _, rfl, hrun, ?_, hlen, fun j hj => by have := hf1 j hj; rw [Addr.add_plain] at this; rw [this]; simp [hj]⟩
  refine VRelL.of_get (by simp [hlen]) fun j v hv => ?_
  have hj : j < k := by have := (List.getElem?_eq_some_iff.1 hv).1; omega
  obtain ⟨v', a1, a2⟩ := hex j hj
  exact ⟨v', by simp [hj, f, a1], a2 v hv⟩

theorem sim_rdRow (h : HRel m s.H w base) {b i k : Nat} {l : Lc} (hl : m b = some l) :
    Sim P base m s w (rdRow b i k) (loadCells ⟨l.cb, l.off + i, none⟩ k) (fun m r a => VRelL m r a.toList ∧ r.length = k) := by
  intro r s' e hf
  obtain ⟨log', arr, rfl, h1, h2, h3, _⟩ := rd_rdRow (P := P) h hl e
  exact ⟨m, arr, w, h1 w rfl, ⟨Ext.refl _ _ _, h, Below.refl _ _⟩, h2, h3⟩

theorem sim_rdCell (h : HRel m s.H w base) {b i : Nat} {l : Lc} (hl : m b = some l) :
    Sim P base m s w (rdCell b i) (load ⟨l.cb, l.off + i, none⟩) VRel := by
  intro r s' e hf
  obtain ⟨n, H, lim, log⟩ := s
  obtain ⟨x, hx, hh⟩ := touch_some e
  obtain ⟨cs, rw, old, esz, rfl, hr, hs⟩ : ∃ cs rw old esz, x = .cells cs rw old esz ∧ cs[i]? = some r ∧ s' = ⟨n, H, lim, note b lim log false⟩ := by
    rcases hh with ⟨hh, hs⟩ | ⟨y, hh, hs⟩ <;> cases x <;> simp only [seenO] at hh <;> (try cases hh)
    · rename_i cs rw old esz
      cases hq : nth cs i with
      | none => simp [hq] at hh
      | some q => simp only [hq, Option.some.injEq, Prod.mk.injEq, and_true] at hh; subst hh; exact ⟨cs, rw, old, esz, rfl, by rw [← nth_eq]; exact hq, hs⟩
    · split at hh <;> cases hh
  subst hs
  obtain ⟨l', c, e1, fz, h1, h2, h3, h4, h5, h6, h7⟩ := h.cells _ _ _ _ _ hx
  rw [hl] at h1; cases h1
  obtain ⟨v', a1, a2⟩ := h6 i r hr
  refine ⟨m, v', w, ?_, ⟨Ext.refl _ _ _, h, Below.refl _ _⟩, a2⟩
  rw [run_load, cell_of h3, a1]

theorem core_write {H : Tr AObj} (h : HRel m H w base) {b i : Nat} {cs cs' : List Value} {old : List Nat} {esz : Nat} {vs vs' : List Value} {l : Lc} (hb : H.get b = some (.cells cs true old esz))
    (hold : ∀ a ∈ old, ¬ liveIn H a) (hl : m b = some l) (hp : putAt i vs cs = some cs') (h1 : vs.all oneCell = true) (hv : VRelL m vs vs') :
    ∃ w', (storeCells ⟨l.cb, l.off + i, none⟩ vs').run P w = .ok () w' ∧ HRel m (H.set b (.cells cs' true [] esz)) w' base ∧ Below base w w' := by
  obtain ⟨l', c, e, fz, g1, g2, g3, g4, g5, g6, g7⟩ := h.cells _ _ _ _ _ hb
  rw [hl] at g1; cases g1
  obtain ⟨hbase, hz⟩ := g7 rfl
  have hlen := hv.length
  have hpl := (putAt_eq _ _ _ _ hp).2
  obtain ⟨c', r, hs, hj⟩ := run_storeCells P l.cb (l.off + i) e fz vs' 0 c w g3 (by omega) hz (hv.allOne h1)
  refine ⟨_, r, h.write hb hold hl g3 hs (putAt_length hp) ?_, putObj_below _ _ _ _ hbase⟩
  intro j v hvj
  rw [putAt_get hp] at hvj
  rw [hj]
  split at hvj
  · rename_i hin
    obtain ⟨v', a1, a2⟩ := hv.get hvj
    refine ⟨v', ?_, a2⟩
    rw [if_pos (by omega), ← a1]
    congr 1; omega
  · rename_i hin
    obtain ⟨v', a1, a2⟩ := g6 j v hvj
    refine ⟨v', ?_, a2⟩
    rw [if_neg (by omega)]; exact a1

theorem kill_some : ∀ (l : List Nat) (s s' : S), kill l s = some ((), s') → HRel m s.H w base → s'.n = s.n ∧ HRel m s'.H w base ∧ (∀ a ∈ l, ¬ liveIn s'.H a) ∧ ∀ a, liveIn s'.H a → s'.H.get a = s.H.get a
  | [], s, s', e, h => by
    obtain ⟨_, rfl⟩ := M.ret_some e
    exact ⟨rfl, h, by simp, fun _ _ => rfl⟩
  | o :: l, ⟨n, H, lim, log⟩, s', e, h => by
    obtain ⟨a, s1, h1, h2⟩ := M.bnd_some e
    obtain ⟨x, hx, ⟨hc, _⟩ | ⟨y, hc, rfl⟩⟩ := touch_some h1
    · cases hc
    · cases hc
      obtain ⟨k1, k2, k3, k4⟩ := kill_some l _ s' h2 (h.kill1 o)
      have hno : ∀ a, liveIn s'.H a → a ≠ o := by
        intro a ha e
        subst e
        have := k4 a ha
        obtain ⟨z, hz, hd⟩ := ha
        rw [this, Tr.get_set_eq] at hz
        cases hz; exact hd rfl
      refine ⟨k1, k2, ?_, fun a ha => by rw [k4 a ha, Tr.get_set_ne _ _ (hno a ha)]⟩
      intro a ha hl
      rcases List.mem_cons.1 ha with rfl | ha
      · exact hno _ hl rfl
      · exact k3 a ha hl

theorem putRow_some {i : Nat} {vs cs : List Value} {esz : Nat} {r : List Nat} {y : Option AObj} (h : putRow i vs cs esz = some (r, y)) :
    ∃ cs', putAt i vs cs = some cs' ∧ vs.all oneCell = true ∧ r = [] ∧ y = some (.cells cs' true [] esz) := by
  unfold putRow at h
  split at h
  · rename_i cs' h1 h2; cases h; exact ⟨cs', h1, h2, rfl, rfl⟩
  · cases h

theorem sim_wrRow (h : HRel m s.H w base) {b i : Nat} {l : Lc} (hl : m b = some l) {vs vs' : List Value} (hv : VRelL m vs vs') :
    Sim P base m s w (wrRow b i vs) (storeCells ⟨l.cb, l.off + i, none⟩ vs') (fun _ _ _ => True) := by
  intro r s' e hf
  obtain ⟨n, H, lim, log⟩ := s
  obtain ⟨old, s1, h1, h2⟩ := M.bnd_some e
  obtain ⟨x, hx, hh⟩ := touch_some h1
  rcases hh with ⟨hh, rfl⟩ | ⟨y, hh, rfl⟩
  · -- something older may lie there
    obtain ⟨cs, o, l', esz, rfl, rfl⟩ : ∃ cs o l' esz, x = .cells cs true (o :: l') esz ∧ old = o :: l' := by
      cases x with
      | cells cs rw old' esz =>
        cases rw <;> cases old' <;> simp only [wrFirst] at hh
        · cases hh
        · cases hh
        · obtain ⟨_, _, _, _, e2⟩ := putRow_some hh; cases e2
        · cases hh; exact ⟨_, _, _, _, rfl, rfl⟩
      | _ => simp [wrFirst] at hh
    obtain ⟨_, s2, h3, h4⟩ := M.bnd_some h2
    obtain ⟨r2, s3, h5, h6⟩ := M.bnd_some h4
    obtain ⟨_, rfl⟩ := M.ret_some h6
    obtain ⟨k1, k2, k3, k4⟩ := kill_some _ _ _ h3 h
    obtain ⟨n2, H2, lim2, log2⟩ := s2
    obtain ⟨x2, hx2, hh2⟩ := touch_some h5
    obtain ⟨cs2, old2, esz2, cs', rfl, hp, ha, rfl⟩ : ∃ cs2 old2 esz2 cs', x2 = .cells cs2 true old2 esz2 ∧ putAt i vs cs2 = some cs' ∧ vs.all oneCell = true ∧ s' = ⟨n2, H2.set b (.cells cs' true [] esz2), lim2, note b lim2 log2 true⟩ := by
      rcases hh2 with ⟨hh2, hs⟩ | ⟨y, hh2, hs⟩
      · cases x2 with
        | cells cs2 rw old2 esz2 =>
          cases rw <;> simp only [wrThen] at hh2
          · cases hh2
          · obtain ⟨_, _, _, _, e2⟩ := putRow_some hh2; cases e2
        | _ => simp [wrThen] at hh2
      · cases x2 with
        | cells cs2 rw old2 esz2 =>
          cases rw <;> simp only [wrThen] at hh2
          · cases hh2
          · obtain ⟨cs', a1, a2, _, e2⟩ := putRow_some hh2; cases e2; exact ⟨_, _, _, _, rfl, a1, a2, hs⟩
        | _ => simp [wrThen] at hh2
    have hlb : liveIn H2 b := ⟨_, hx2, by simp⟩
    have hsame := k4 b hlb
    simp only [] at hsame
    rw [hx2, hx] at hsame
    cases hsame
    obtain ⟨w', g1, g2, g3⟩ := core_write (P := P) k2 hx2 k3 hl hp ha hv
    simp only [] at k1
    subst k1
    exact ⟨m, (), w', g1, ⟨Ext.refl _ _ _, g2, g3⟩, trivial⟩
  · obtain ⟨cs, esz, cs', rfl, rfl, hp, ha, rfl⟩ : ∃ cs esz cs', x = .cells cs true [] esz ∧ old = [] ∧ putAt i vs cs = some cs' ∧ vs.all oneCell = true ∧ y = .cells cs' true [] esz := by
      cases x with
      | cells cs rw old' esz =>
        cases rw <;> cases old' <;> simp only [wrFirst] at hh
        · cases hh
        · cases hh
        · obtain ⟨cs', a1, a2, a3, a4⟩ := putRow_some hh; cases a4; exact ⟨_, _, _, rfl, a3, a1, a2, rfl⟩
        · cases hh
      | _ => simp [wrFirst] at hh
    obtain ⟨_, rfl⟩ := M.ret_some h2
    obtain ⟨w', g1, g2, g3⟩ := core_write (P := P) h hx (by simp) hl hp ha hv
    exact ⟨m, (), w', g1, ⟨Ext.refl _ _ _, g2, g3⟩, trivial⟩

/-- A new row in a new block. -/
theorem HRel.newRow1 {H : Tr AObj} (h : HRel m H w base) {n : Nat} (hn : m n = none) {cs : List Value} {c : Array Value} {e : TypeId} {esz : Nat} {old : List Nat} (hlen : cs.length ≤ c.size) (hrow : RowRel m cs c 0)
    (hro : ∀ a ∈ old, (∃ k, m a = some k) ∧ ∀ x, H.get a = some x → x = .dead ∨ ∃ cs' old' esz', x = .cells cs' false old' esz') :
    HRel (upd m n ⟨w.heap.size, 0, c.size, esz⟩) (H.set n (.cells cs true old esz)) { w with heap := w.heap.push (.cells c e) } base := by
  have hne : ∀ a, liveIn H a → ∀ k, m a = some k → k.cb < w.heap.size := by
    intro a ha k hk
    obtain ⟨k', h1, h2⟩ := h.live_lt ha
    rw [hk] at h1; cases h1; exact h2
  refine h.new hn (by simp; have := h.bs; omega) ?_ (by simp) ?_ (by simp) (by simp) ?_ ?_ ?_
  · intro a ha k hk
    left
    rw [Array.getElem?_push, if_neg (by have := hne a ha k hk; omega)]
  · intro cs1 rw1 old1 esz1 e1
    cases e1
    exact ⟨rfl, c, e, (0, 0), by simp, rfl, by simpa using hlen, hrow, fun _ => ⟨h.bs, .inl rfl⟩⟩
  · intro a k ha hk hcb
    have := hne a ha k hk
    exact absurd hcb (by simp; omega)
  · intro cs1 rw1 old1 esz1 e1 a ha ds rw' old' esz' k hx hk hcb
    have := hne a ⟨_, hx, by simp⟩ k hk
    exact absurd hcb (by simp; omega)
  · intro cs1 rw1 old1 esz1 e1
    cases e1; exact hro

theorem Below.push {base : Nat} {w : World} (h : base ≤ w.heap.size) (o : Obj) : Below base w { w with heap := w.heap.push o } :=
  ⟨rfl, rfl, rfl, by simp, fun k hk => by show (w.heap.push o)[k]? = _; rw [Array.getElem?_push, if_neg (by omega)]⟩

/-- A new row of one's own: where it lies. -/
def AtNew (esz : Nat) (m : Mp) (b : Nat) (a : Addr) : Prop := ∃ l, m b = some l ∧ l.off = 0 ∧ l.esz = esz ∧ a = ⟨l.cb, 0, none⟩

theorem newRow_some {cs : List Value} {old : List Nat} {esz : Nat} {n : Nat} {H : Tr AObj} {lim : Nat} {log : List Acc} {b : Nat} {s' : S} (e : newRow cs old esz ⟨n, H, lim, log⟩ = some (b, s')) :
    cs.all oneCell = true ∧ b = n ∧ s' = ⟨n + 1, H.set n (.cells cs true old esz), lim, log⟩ := by
  unfold newRow at e
  cases h1 : cs.all oneCell with
  | true =>
    simp only [h1, newObj, force_eq, Option.some.injEq, Prod.mk.injEq] at e
    exact ⟨rfl, e.1.symm, e.2.symm⟩
  | false => rw [h1] at e; exact (M.fail_some e).elim

theorem sim_newRow (h : HRel m s.H w base) {cs : List Value} {c : Array Value} (e : TypeId) (esz : Nat) (hv : VRelL m cs c.toList) :
    Sim P base m s w (newRow cs [] esz) (Go.newRow e c) (fun m b a => AtNew esz m b a ∧ ∃ l, m b = some l ∧ l.sz = c.size) := by
  intro b s' ex hf
  obtain ⟨n, H, lim, log⟩ := s
  obtain ⟨h1, rfl, rfl⟩ := newRow_some ex
  have hn : m b = none := hf b (Nat.le_refl _) (Nat.lt_succ_self _)
  have hlen := hv.length
  simp only [Array.length_toList] at hlen
  refine ⟨upd m b ⟨w.heap.size, 0, c.size, esz⟩, ⟨w.heap.size, 0, none⟩, _, rfl, ⟨Ext.upd _ _ _, h.newRow1 hn (by omega) ?_ (by simp), Below.push h.bs _⟩, ⟨_, upd_eq _ _ _, rfl, rfl, rfl⟩, _, upd_eq _ _ _, rfl⟩
  intro i v hi
  obtain ⟨v', a1, a2⟩ := hv.get hi
  exact ⟨v', by simpa using a1, a2⟩

theorem run_sizeOf {t : TypeId} {k : Nat} (h : sizeOf' P t = some k) : (sizeOf t).run P w = .ok k w := by
  unfold sizeOf' at h
  cases hi : P.info? t with
  | none => simp [hi] at h
  | some i => simp [hi] at h; simp [sizeOf, typeInfo, hi, h]
theorem run_zero {t : TypeId} {z : Value} (h : zero' P t = some z) : (zeroValue t).run P w = .ok z w := by
  unfold zero' at h
  cases hi : P.types[t]? with
  | none => simp [hi] at h
  | some i =>
    simp only [hi] at h
    have h1 : P.info? t = some i := by
      obtain ⟨h1, h2⟩ := Array.getElem?_eq_some_iff.1 hi
      simp [Tables.info?, h1, h2]
    simp [zeroValue, typeInfo, h1, h]
theorem run_under {t : TypeId} {d : TypeDesc} (h : P.underlying t = some d) : (underlying t).run P w = .ok d w := by simp [underlying, h]
theorem run_isAgg {t : TypeId} {b : Bool} (h : isAgg' P t = some b) : (isAgg t).run P w = .ok b w := by
  unfold isAgg' at h
  cases hi : P.underlying t with
  | none => simp [hi] at h
  | some d => simp [hi] at h; subst h; simp only [isAgg, Sem.run_bind, run_under hi, Result.andThen_ok]; cases d <;> rfl

theorem sim_loadV (h : HRel m s.H w base) (t : TypeId) {b i : Nat} {l : Lc} (hl : m b = some l) :
    Sim P base m s w (loadV P t b i) (loadVar t ⟨l.cb, l.off + i, none⟩) VRel := by
  unfold loadV
  cases ha : isAgg' P t with
  | none => exact Sim.fail
  | some a =>
    cases a with
    | true =>
      cases hk : sizeOf' P t with
      | none => exact Sim.fail
      | some k =>
        refine Sim.run (y := loadCells ⟨l.cb, l.off + i, none⟩ k >>= fun c => pure (.agg c)) ?_ (by simp [loadVar, run_isAgg ha, run_sizeOf hk])
        exact Sim.map (sim_rdRow h hl) fun m r a hr => .agg (by simpa using hr.1)
    | false => exact Sim.run (sim_rdCell h hl) (by simp [loadVar, run_isAgg ha])

theorem sim_storeV (h : HRel m s.H w base) (t : TypeId) {b i : Nat} {l : Lc} (hl : m b = some l) {v v' : Value} (hv : VRel m v v') :
    Sim P base m s w (storeV P t b i v) (storeVar t ⟨l.cb, l.off + i, none⟩ v') (fun _ _ _ => True) := by
  unfold storeV
  cases hk : sizeOf' P t with
  | none => exact Sim.fail
  | some k =>
    simp only []
    cases hb : Nat.beq (cellsOf v).length k with
    | false => exact Sim.fail
    | true =>
      have hlen := hv.cells.length
      have hk2 := Nat.eq_of_beq_eq_true hb
      refine Sim.run (sim_wrRow h hl hv.cells) ?_
      have : v'.cells.size = k := by rw [← hk2, hlen]; simp
      simp [storeVar, run_sizeOf hk, this]
end
end Go.Shade

/- The evaluator's operations beside the model's. Part 1: plain values. -/
namespace Go.Shade
open Go.RowKit
set_option linter.unusedVariables false

/-- A value without any address. -/
def closedV : Nat → Value → Bool
  | 0, _ => false
  | d + 1, v => match v with
    | .agg cs => cs.toList.all (closedV d)
    | .tuple cs => cs.toList.all (closedV d)
    | .iface _ v => closedV d v
    | .func _ f c => f.toList.all (closedV d) && c.toList.all (closedV d)
    | .slice none 0 0 => true
    | v => atomic v

theorem closed_rel (m : Mp) : ∀ (d : Nat) (v : Value), closedV d v = true → VRel m v v
  | 0, _, h => by simp [closedV] at h
  | d + 1, v, h => by
    have hl : ∀ l : List Value, l.all (closedV d) = true → VRelL m l l := by
      intro l
      induction l with
      | nil => exact fun _ => .nil
      | cons x l ih =>
        intro h
        simp only [List.all_cons, Bool.and_eq_true] at h
        exact .cons (closed_rel m d x h.1) (ih h.2)
    unfold closedV at h
    split at h
    · exact .agg (hl _ h)
    · exact .tuple (hl _ h)
    · exact .iface (closed_rel m d _ h)
    · simp only [Bool.and_eq_true] at h; exact .func (hl _ h.1) (hl _ h.2)
    · exact .nilSlice
    · exact .atom h

/-- What is asked of a program's operands. -/
def okOpd (P : Program) : Operand → Bool
  | .const v => closedV 8 v
  | .global g => decide (g < P.globals.size)
  | _ => true

/-- The package-level variables lie where they lie. -/
def Glob (P : Program) (m : Mp) : Prop := ∀ g, g < P.globals.size → ∃ l, m g = some l ∧ l.cb = g ∧ l.off = 0
theorem Glob.mono {P : Program} {m m' : Mp} (h : Glob P m) (hm : MLe m m') : Glob P m' := fun g hg => let ⟨l, a, b⟩ := h g hg; ⟨l, hm _ _ a, b⟩

section
variable {P : Program} {base : Nat} {m : Mp} {s : S} {w : World}

theorem run_binInt (op : BinOp) (t : TypeId) (x y : Operand) (cst : Bool) (k k' : IntKind) (a b : Int) {v : Value} (h : binV P op t cst (.int k a) (.int k' b) = some v) :
    (do eqGuard op t x y (.int k a) (.int k' b); binOp op t (.int k a) (.int k' b)).run P w = .ok v w := by
  have hg : eqGuard op t x y (.int k a) (.int k' b) = pure () := by cases op <;> rfl
  rw [hg]
  simp only [Sem.run_bind, Sem.run_pure, Result.andThen_ok]
  unfold binV at h
  have hs : ∀ left : Bool, shiftOp left k a b = some v → ¬ b < 0 ∧ v = .int k (match left with | true => k.wrap (a * 2 ^ (min b.toNat k.bits)) | false => a.fdiv (2 ^ (min b.toNat k.bits))) := by
    intro left hh
    unfold shiftOp at hh
    by_cases hb : b < 0
    · simp [hb] at hh
    · simp only [hb, decide_false, mkInt_eq] at hh
      cases left <;> simp at hh <;> exact ⟨hb, hh.symm⟩
  cases op <;> simp only at h
  case shl => obtain ⟨h1, rfl⟩ := hs true h; simp [binOp, Op.shift, h1]
  case shr => obtain ⟨h1, rfl⟩ := hs false h; simp [binOp, Op.shift, h1]
  all_goals
    by_cases hk : k = k'
    · subst hk
      simp only [decide_true, intOp, mkInt_eq] at h
      first
        | (cases h; simp [binOp, Op.intArith, Op.intBits, Op.intCmp]; done)
        | (by_cases hb : b = 0
           · simp [hb] at h
           · simp [hb] at h; subst h; simp [binOp, Op.intDiv, hb])
    · simp [hk] at h

theorem run_binStr (op : BinOp) (t : TypeId) (x y : Operand) (cst : Bool) (a b : ByteArray) {v : Value} (h : binV P op t cst (.string a) (.string b) = some v) :
    (do eqGuard op t x y (.string a) (.string b); binOp op t (.string a) (.string b)).run P w = .ok v w := by
  have hg : eqGuard op t x y (.string a) (.string b) = pure () := by cases op <;> rfl
  rw [hg]
  simp only [Sem.run_bind, Sem.run_pure, Result.andThen_ok]
  simp only [binV, strOp] at h
  cases op <;> simp only at h <;> (try cases h) <;> (try (simp [binOp, Op.stringOp]; done))
  by_cases hb : ((a.size + b.size : Nat) : Int) > IntKind.i64.max
  · rw [decide_eq_true hb] at h; cases h
  · rw [decide_eq_false hb] at h
    simp only [Option.some.injEq] at h
    subst h
    simp only [binOp, Op.stringOp, if_neg hb]; rfl

theorem part_rel {t : TypeId} {cs cs' : Array Value} {off : Nat} {v : Value} (h : partV P t cs.toList off = some v) (hr : VRelL m cs.toList cs'.toList) :
    ∃ v', (part t cs' off).run P w = .ok v' w ∧ VRel m v v' := by
  unfold partV at h
  cases ha : isAgg' P t with
  | none => simp [ha] at h
  | some a =>
    cases a with
    | true =>
      cases hk : sizeOf' P t with
      | none => simp [ha, hk] at h
      | some k =>
        cases hrow : rowOf cs.toList off k with
        | none => simp [ha, hk, hrow] at h
        | some l =>
          simp only [ha, hk, hrow, Option.some.injEq] at h
          subst h
          refine ⟨.agg (cs'.extract off (off + k)), by simp [part, run_isAgg ha, run_sizeOf hk], .agg ?_⟩
          have hlen := hr.length
          have hq := rowOf_eq hrow
          refine VRelL.of_get ?_ fun i v hv => ?_
          · rw [hq.1]; simp at hlen ⊢; omega
          · have hi : i < k := by have := (List.getElem?_eq_some_iff.1 hv).1; have := rowOf_length hrow; simp at *; omega
            have hv2 : cs.toList[off + i]? = some v := by rw [← rowOf_get hrow i hi]; simpa using hv
            obtain ⟨v', a1, a2⟩ := hr.get hv2
            refine ⟨v', ?_, a2⟩
            have hlt := (List.getElem?_eq_some_iff.1 a1).1
            simp only [Array.length_toList] at hlt
            rw [Array.getElem?_toList, Array.getElem?_extract, if_pos (by omega)]
            simpa using a1
    | false =>
      simp only [ha, nth_eq] at h
      obtain ⟨v', a1, a2⟩ := hr.get h
      refine ⟨v', ?_, a2⟩
      have : cs'[off]? = some v' := by simpa using a1
      simp [part, run_isAgg ha, this]

theorem VRel.int_inv {k : IntKind} {n : Int} {v' : Value} (h : VRel m (.int k n) v') : v' = .int k n := by cases h; rfl
theorem VRel.bool_inv {b : Bool} {v' : Value} (h : VRel m (.bool b) v') : v' = .bool b := by cases h; rfl
theorem VRel.string_inv {b : ByteArray} {v' : Value} (h : VRel m (.string b) v') : v' = .string b := by cases h; rfl

set_option maxHeartbeats 2000000 in
theorem eq_run : ∀ (d e : Nat) (t : TypeId) (x y x' y' : Value) (b : Bool), d ≤ e → eqV P d t x y = some b → VRel m x x' → VRel m y y' → (Op.equalIn e t x' y').run P w = .ok b w
  | 0, _, _, _, _, _, _, _, _, h, _, _ => by simp [eqV] at h
  | d + 1, 0, _, _, _, _, _, _, hle, _, _, _ => by omega
  | d + 1, e + 1, t, x, y, x', y', b, hle, h, hx, hy => by
    have hfields : ∀ (fs : List Field) (xs ys xs' ys' : Array Value), eqV.eqFields P (eqV P d) fs xs.toList ys.toList = some b → VRelL m xs.toList xs'.toList → VRelL m ys.toList ys'.toList →
        (Op.eqFields e xs' ys' fs).run P w = .ok b w := by
      intro fs xs ys xs' ys' hh hxs hys
      induction fs with
      | nil => simp only [eqV.eqFields, Option.some.injEq] at hh; subst hh; rfl
      | cons f fs ih =>
        simp only [eqV.eqFields] at hh
        by_cases hn : f.name ≠ "_"
        · rw [decide_eq_true hn] at hh
          simp only at hh
          cases h1 : partV P f.type xs.toList f.offset with
          | none => simp [h1] at hh
          | some u =>
            cases h2 : partV P f.type ys.toList f.offset with
            | none => simp [h1, h2] at hh
            | some v =>
              simp only [h1, h2] at hh
              obtain ⟨u', r1, k1⟩ := part_rel (w := w) h1 hxs
              obtain ⟨v', r2, k2⟩ := part_rel (w := w) h2 hys
              cases h3 : eqV P d f.type u v with
              | none => simp [h3] at hh
              | some c =>
                have r3 := eq_run d e f.type u v u' v' c (by omega) h3 k1 k2
                simp only [h3] at hh
                cases c with
                | true => simp only [Op.eqFields, if_pos hn, Sem.run_bind, r1, r2, r3, Result.andThen_ok, if_true]; simpa using ih hh
                | false => cases hh; simp [Op.eqFields, if_pos hn, Sem.run_bind, r1, r2, r3]
        · rw [decide_eq_false hn] at hh
          simp only at hh
          simp only [Op.eqFields, if_neg hn]
          exact ih hh
    unfold eqV at h
    split at h
    · rename_i hu; cases hx; cases hy; cases h; simp [Op.equalIn, run_under hu]
    · rename_i hu; cases hx; cases hy
      split at h
      · rename_i hk; cases h; simp [Op.equalIn, run_under hu, hk]
      · cases h
    · rename_i hu; cases hx; cases hy; cases h; simp [Op.equalIn, run_under hu]
    · rename_i hu; cases hx; cases h; cases hy <;> simp [Op.equalIn, run_under hu]
    · rename_i hu; cases hy; cases h; cases hx with
      | atom k => simp [atomic] at k
      | ptr k => simp [Op.equalIn, run_under hu]
    · rename_i hu; cases hx; cases hy; cases h; simp [Op.equalIn, run_under hu]
    · rename_i hu; cases hx; cases h; cases hy with
      | atom k => simp [atomic] at k
      | iface k => simp [Op.equalIn, run_under hu]
    · rename_i hu; cases hy; cases h; cases hx with
      | atom k => simp [atomic] at k
      | iface k => simp [Op.equalIn, run_under hu]
    · rename_i fields xs ys hu
      cases hx with
      | atom k => simp [atomic] at k
      | agg kx =>
        cases hy with
        | atom k => simp [atomic] at k
        | agg ky =>
          cases hst : P.stoodInHeld t with
          | true => simp [hst] at h
          | false =>
            simp only [hst] at h
            have hfo : P.fieldsOf t = fields := by simp [Program.fieldsOf, hu]
            rw [run_equalIn_struct w e t _ _ (by rw [hfo]; exact hu) hst, hfo]
            exact hfields _ _ _ _ _ h kx ky
    · rename_i hu; cases h; cases hx with
      | atom k => simp [atomic] at k
      | nilSlice => cases hy with
        | atom k => simp [atomic] at k
        | _ => simp [Op.equalIn, run_under hu]
    · rename_i hu; cases h; cases hy with
      | atom k => simp [atomic] at k
      | nilSlice => cases hx with
        | atom k => simp [atomic] at k
        | _ => simp [Op.equalIn, run_under hu]
    · rename_i hu; cases hx; cases h; cases hy <;> simp [Op.equalIn, run_under hu]
    · rename_i hu; cases hy; cases h; cases hx with
      | atom k => simp [atomic] at k
      | map k => simp [Op.equalIn, run_under hu]
    · rename_i hu; cases hx; cases hy; cases h; simp [Op.equalIn, run_under hu]
    · rename_i hu; cases hx; cases h; cases hy with
      | atom k => simp [atomic] at k
      | func _ _ => simp [Op.equalIn, run_under hu]
    · rename_i hu; cases hy; cases h; cases hx with
      | atom k => simp [atomic] at k
      | func _ _ => simp [Op.equalIn, run_under hu]
    · cases h

theorem binV_atomic {op : BinOp} {t : TypeId} {cst : Bool} {a b v : Value} (h : binV P op t cst a b = some v) : atomic v = true := by
  have hi : ∀ (o : BinOp) k x y, intOp o k x y = some v → atomic v = true := by
    intro o k x y h
    cases o <;> simp only [intOp, mkInt_eq] at h <;> first | (cases h; rfl) | skip
    all_goals by_cases hy : y = 0 <;> simp [hy] at h <;> subst h <;> rfl
  have hs : ∀ l k x y, shiftOp l k x y = some v → atomic v = true := by
    intro l k x y h
    unfold shiftOp at h
    by_cases hy : y < 0
    · simp [hy] at h
    · cases l <;> simp [hy, mkInt_eq] at h <;> subst h <;> rfl
  unfold binV at h
  split at h
  · split at h
    · exact hs _ _ _ _ h
    · exact hs _ _ _ _ h
    · split at h
      · exact hi _ _ _ _ h
      · cases h
  · rename_i x y
    cases op <;> simp only [strOp] at h <;> first | (cases h; done) | (cases h; rfl) | skip
    by_cases hb : ((x.size + y.size : Nat) : Int) > IntKind.i64.max
    · rw [decide_eq_true hb] at h; cases h
    · rw [decide_eq_false hb] at h; cases h; rfl
  · cases h
  · cases h
  · split at h
    · split at h
      · split at h
        · cases h; rfl
        · cases h
      · cases h
    · split at h
      · split at h
        · cases h; rfl
        · cases h
      · cases h
    · cases h

theorem run_guard (op : BinOp) (t : TypeId) (x y : Operand) {a b a' b' : Value} (h : guardV P t (isConst' x || isConst' y) a b = true) (ha : VRel m a a') (hb : VRel m b b') :
    (eqGuard op t x y a' b').run P w = .ok () w := by
  have plain : eqGuard op t x y a' b' = pure () → (eqGuard op t x y a' b').run P w = .ok () w := fun e => by rw [e]; rfl
  cases ha with
  | agg k =>
    cases hb with
    | agg k2 =>
      simp only [guardV, Bool.not_eq_true'] at h
      exact run_eqGuard_agg w op t x y _ _ h
    | atom k2 => refine plain ?_; cases b <;> first | (simp [atomic] at k2; done) | (cases op <;> rfl)
    | _ => exact plain (by cases op <;> rfl)
  | atom k =>
    by_cases hna : a = .nilIface
    · subst hna
      cases hb with
      | atom k2 =>
        by_cases hnb : b = .nilIface
        · subst hnb
          simp only [guardV] at h
          cases op <;> first | (exact plain rfl) | (cases x <;> cases y <;> simp [isConst'] at h <;> simp [eqGuard])
        · refine plain ?_
          cases b <;> first | (exact absurd rfl hnb) | (simp [atomic] at k2; done) | (cases op <;> rfl)
      | _ => exact plain (by cases op <;> rfl)
    · refine plain ?_
      cases a <;> first | (exact absurd rfl hna) | (simp [atomic] at k; done) | (cases op <;> rfl)
  | _ => exact plain (by cases op <;> rfl)

theorem eqV_int {d : Nat} {t : TypeId} {k : IntKind} {n : Int} {b : Value} {c : Bool} (h : eqV P d t (.int k n) b = some c) : ∃ k' n', b = .int k' n' := by
  cases d with
  | zero => simp [eqV] at h
  | succ d => unfold eqV at h; split at h <;> first | (cases h; done) | exact ⟨_, _, rfl⟩ | (rename_i e; cases e) | (rename_i e _; cases e)
theorem eqV_string {d : Nat} {t : TypeId} {s : ByteArray} {b : Value} {c : Bool} (h : eqV P d t (.string s) b = some c) : ∃ q, b = .string q := by
  cases d with
  | zero => simp [eqV] at h
  | succ d => unfold eqV at h; split at h <;> first | (cases h; done) | exact ⟨_, rfl⟩ | (rename_i e; cases e) | (rename_i e _; cases e)

theorem run_eql_gen (t : TypeId) {a b a' b' : Value} {c : Bool} (h : eqV P 100 t a b = some c) (ha : VRel m a a') (hb : VRel m b b')
    (h1 : ∀ k n k' n', ¬ (a = .int k n ∧ b = .int k' n')) (h2 : ∀ p q, ¬ (a = .string p ∧ b = .string q)) (h3 : ∀ k x, a ≠ .float k x) (h4 : ∀ k x y, a ≠ .complex k x y) :
    (binOp .eql t a' b').run P w = .ok (.bool c) w ∧ (binOp .neq t a' b').run P w = .ok (.bool !c) w := by
  have he := eq_run (w := w) 100 10000 t a b a' b' c (by omega) h ha hb
  have fin : (binOp .eql t a' b' = (do pure (.bool (← Op.equal t a' b')))) → (binOp .neq t a' b' = (do pure (.bool (!(← Op.equal t a' b'))))) →
      (binOp .eql t a' b').run P w = .ok (.bool c) w ∧ (binOp .neq t a' b').run P w = .ok (.bool !c) w := by
    intro e1 e2
    rw [e1, e2]
    simp [Op.equal, Op.maxDepth, he]
  cases ha with
  | atom k =>
    cases a <;> simp [atomic] at k <;> (try exact fin rfl rfl)
    · obtain ⟨k', n', e⟩ := eqV_int h
      exact absurd ⟨rfl, e⟩ (h1 _ _ _ _)
    · exact absurd rfl (h3 _ _)
    · exact absurd rfl (h4 _ _ _)
    · obtain ⟨q, e⟩ := eqV_string h
      exact absurd ⟨rfl, e⟩ (h2 _ _)
  | ptr k => cases hb <;> exact fin rfl rfl
  | _ => exact fin rfl rfl

/-- Two operands' binary operation. -/
theorem run_bin (op : BinOp) (t : TypeId) (x y : Operand) {a b a' b' v : Value} (h : binV P op t (isConst' x || isConst' y) a b = some v) (ha : VRel m a a') (hb : VRel m b b') :
    (do eqGuard op t x y a' b'; binOp op t a' b').run P w = .ok v w ∧ VRel m v v := by
  refine ⟨?_, .atom (binV_atomic h)⟩
  have h0 := h
  unfold binV at h
  split at h
  · rename_i k n k' n'
    cases ha.int_inv; cases hb.int_inv
    exact run_binInt op t x y _ k k' n n' h0
  · rename_i p q
    cases ha.string_inv; cases hb.string_inv
    exact run_binStr op t x y _ p q h0
  · cases h
  · cases h
  · rename_i q1 q2 q3 q4
    have h1 : ∀ k n k' n', ¬ (a = .int k n ∧ b = .int k' n') := by
      rintro k n k' n' ⟨rfl, rfl⟩
      first | exact q1 _ _ _ _ rfl rfl | exact q2 _ _ _ _ rfl rfl | exact q3 _ _ _ _ rfl rfl | exact q4 _ _ _ _ rfl rfl | simp at *
    have h2 : ∀ p q, ¬ (a = .string p ∧ b = .string q) := by
      rintro p q ⟨rfl, rfl⟩
      first | exact q1 _ _ rfl rfl | exact q2 _ _ rfl rfl | exact q3 _ _ rfl rfl | exact q4 _ _ rfl rfl | simp at *
    have h3 : ∀ k x, a ≠ .float k x := by
      rintro k x rfl
      first | exact q1 _ _ rfl | exact q2 _ _ rfl | exact q3 _ _ rfl | exact q4 _ _ rfl
    have h4 : ∀ k x y, a ≠ .complex k x y := by
      rintro k x y rfl
      first | exact q1 _ _ _ rfl | exact q2 _ _ _ rfl | exact q3 _ _ _ rfl | exact q4 _ _ _ rfl
    split at h
    · cases hg : guardV P t (isConst' x || isConst' y) a b with
      | false => simp [hg] at h
      | true =>
        cases he : eqV P 100 t a b with
        | none => simp [hg, he] at h
        | some c =>
          simp only [hg, he, Option.some.injEq] at h
          subst h
          simp only [Sem.run_bind, run_guard _ t x y hg ha hb, Result.andThen_ok]
          exact (run_eql_gen t he ha hb h1 h2 h3 h4).1
    · cases hg : guardV P t (isConst' x || isConst' y) a b with
      | false => simp [hg] at h
      | true =>
        cases he : eqV P 100 t a b with
        | none => simp [hg, he] at h
        | some c =>
          simp only [hg, he, Option.some.injEq] at h
          subst h
          simp only [Sem.run_bind, run_guard _ t x y hg ha hb, Result.andThen_ok]
          exact (run_eql_gen t he ha hb h1 h2 h3 h4).2
    · cases h
end
end Go.Shade

/- The evaluator's operations beside the model's. Part 2. -/
namespace Go.Shade
open Go.RowKit
set_option linter.unusedVariables false

/-- What is asked of a program. -/
structure POk (P : Program) : Prop where
  zero : ∀ t z, zero' P t = some z → closedV 8 z = true
  zsize : ∀ t z, zero' P t = some z → sizeOf' P t = some (cellsOf z).length

def VR (m : Mp) (r : Res) (v : Value) : Prop := ∃ u, r = .val u ∧ VRel m u v

/-- What an operation comes to, beside the model's. -/
def Outc (P : Program) (m : Mp) (r : Res) (q : Result Next) (w' : World) : Prop := match r with
  | .val v => (∃ v', q = .ok (.value v') w' ∧ VRel m v v') ∨ (q = .ok .skip w' ∧ v = undefV)
  | .panic v => ∃ v', q = .halt (.panic v') w' ∧ VRel m v v'
  | .enter f args => ∀ fn, P.funcs[f]? = some fn → fn.body.isSome = true → fn.name ≠ "runtime.NumGoroutine" → ∃ args', q = .ok (.enter f args') w' ∧ VRelL m args args'.toList
  | .defer f args => ∃ c a, q = .ok (.defer { target := .fn (.func f) c, args := a }) w' ∧ VRelL m args (a ++ c).toList
  | .recover => q = .ok .recover w'

def SimOp (P : Program) (base : Nat) (m : Mp) (s : S) (w : World) (x : M Res) (y : Sem Next) : Prop :=
  ∀ r s', x s = some (r, s') → Fresh m s.n s'.n → ∃ m' w', Step base m m' s.n s'.n s'.H w w' ∧ Outc P m' r (y.run P w) w'

section
variable {P : Program} {base : Nat} {m : Mp} {s : S} {w : World}

theorem SimOp.val {x : M Res} {y : Sem Value} (h : Sim P base m s w x y VR) : SimOp P base m s w x (y >>= fun a => pure (.value a)) := by
  intro r s' e hf
  obtain ⟨m', b, w', h1, h2, u, rfl, h3⟩ := h r s' e hf
  exact ⟨m', w', h2, .inl ⟨b, by rw [Sem.run_bind, h1]; rfl, h3⟩⟩
theorem SimOp.skip {x : M Res} {y : Sem Unit} (h : Sim P base m s w x y fun _ r _ => r = .val undefV) : SimOp P base m s w x (y >>= fun _ => pure .skip) := by
  intro r s' e hf
  obtain ⟨m', b, w', h1, h2, rfl⟩ := h r s' e hf
  exact ⟨m', w', h2, .inr ⟨by rw [Sem.run_bind, h1]; rfl, rfl⟩⟩
theorem SimOp.fail {y : Sem Next} : SimOp P base m s w M.fail y := fun r s' e => (M.fail_some e).elim

theorem Sim.asVal {x : M Value} {y : Sem Value} (h : Sim P base m s w x y VRel) : Sim P base m s w (asVal x) y VR := by
  intro c s' e hf
  obtain ⟨a, s1, h1, h2⟩ := M.bnd_some e
  obtain ⟨rfl, rfl⟩ := M.ret_some h2
  obtain ⟨m', b, w', r1, st, hR⟩ := h a s' h1 hf
  exact ⟨m', b, w', r1, st, a, rfl, hR⟩
theorem Sim.retVal (h : HRel m s.H w base) {v v' : Value} {y : Sem Value} (hy : y.run P w = .ok v' w) (hv : VRel m v v') : Sim P base m s w (M.ret (.val v)) y VR := by
  intro r s' e hf
  obtain ⟨rfl, rfl⟩ := M.ret_some e
  exact ⟨m, v', w, hy, Step.refl h, v, rfl, hv⟩
theorem Sim.optVal (h : HRel m s.H w base) {o : Option Value} {y : Sem Value} (hy : ∀ v, o = some v → ∃ v', y.run P w = .ok v' w ∧ VRel m v v') : Sim P base m s w (optVal o) y VR := by
  cases o with
  | none => exact Sim.fail
  | some v => obtain ⟨v', h1, h2⟩ := hy v rfl; exact Sim.retVal h h1 h2
theorem Sim.opt (h : HRel m s.H w base) {o : Option Value} {y : Sem Value} (hy : ∀ v, o = some v → ∃ v', y.run P w = .ok v' w ∧ VRel m v v') : Sim P base m s w (M.opt o) y VRel := by
  intro r s' e hf
  obtain ⟨e1, rfl⟩ := M.opt_some e
  obtain ⟨v', h1, h2⟩ := hy r e1
  exact ⟨m, v', w, h1, Step.refl h, h2⟩
theorem SimOp.retVal (h : HRel m s.H w base) {v v' : Value} {y : Sem Next} (hy : y.run P w = .ok (.value v') w) (hv : VRel m v v') : SimOp P base m s w (M.ret (.val v)) y := by
  intro r s' e hf
  obtain ⟨rfl, rfl⟩ := M.ret_some e
  exact ⟨m, w, Step.refl h, .inl ⟨v', hy, hv⟩⟩

theorem sim_pick (h : HRel m s.H w base) {c a b c' a' b' : Value} (hc : VRel m c c') (ha : VRel m a a') (hb : VRel m b b') :
    SimOp P base m s w (opPick c a b) (do pure (.value (if ← asBool c' then a' else b'))) := by
  unfold opPick
  split
  · cases hc; exact SimOp.retVal h (by simp [asBool]) ha
  · cases hc; exact SimOp.retVal h (by simp [asBool]) hb
  · exact SimOp.fail

theorem AtNew.ptr {esz : Nat} {b : Nat} {a : Addr} (h : AtNew esz m b a) : VRel m (ptr b 0) (.pointer (some a)) := by
  obtain ⟨l, h1, h2, h3, rfl⟩ := h
  have := VRel.ptr (m := m) (b := b) (i := 0) h1
  rw [h2] at this
  exact this

theorem sim_newPtr (h : HRel m s.H w base) {cs : List Value} {c : Array Value} (t : TypeId) (hv : VRelL m cs c.toList) :
    Sim P base m s w (ptrTo (newRow cs [] 0)) (do pure (.pointer (some (← Go.newRow t c)))) VR :=
  Sim.map (sim_newRow h t 0 hv) fun m b a hr => ⟨_, rfl, hr.1.ptr⟩

theorem sim_alloc (ok : POk P) (h : HRel m s.H w base) (t : TypeId) : Sim P base m s w (opAlloc P t) (Instr.alloc t true (.tuple #[])) VR := by
  unfold opAlloc
  cases hz : zero' P t with
  | none => exact Sim.fail
  | some z =>
    refine Sim.run (sim_newPtr h t (closed_rel m 8 z (ok.zero t z hz)).cells) ?_
    simp [Instr.alloc, run_zero hz, newVar]
theorem sim_box (h : HRel m s.H w base) (t : TypeId) {v v' : Value} (hv : VRel m v v') : Sim P base m s w (opBox v) (Instr.box t v') VR :=
  sim_newPtr h t hv.cells

/-- Cells set one by one. -/
theorem foldl_set (off : Nat) : ∀ (l : List Value) (j : Nat) (cs : Array Value), off + j + l.length ≤ cs.size →
    ∃ r : Array Value, (l.zipIdx j).foldl (fun cs (x : Value × Nat) => cs.setIfInBounds (off + x.2) x.1) cs = r ∧ r.size = cs.size ∧ ∀ k, r[k]? = if off + j ≤ k ∧ k < off + j + l.length then l[k - (off + j)]? else cs[k]?
  | [], j, cs, _ => ⟨cs, rfl, rfl, fun k => by rw [if_neg (by simp)]⟩
  | v :: l, j, cs, h => by
    simp only [List.length_cons] at h
    obtain ⟨r, h1, h2, h3⟩ := foldl_set off l (j + 1) (cs.setIfInBounds (off + j) v) (by simp; omega)
    refine ⟨r, by simpa [List.zipIdx_cons] using h1, by simpa using h2, fun k => ?_⟩
    rw [h3, Array.getElem?_setIfInBounds]
    simp only [List.length_cons]
    by_cases a1 : k = off + j
    · subst a1; rw [if_neg (by omega), if_pos rfl, if_pos (by omega), if_pos (by omega)]; simp
    · by_cases a2 : off + (j + 1) ≤ k ∧ k < off + (j + 1) + l.length
      · rw [if_pos a2, if_pos (by omega), show k - (off + j) = (k - (off + (j + 1))) + 1 from by omega]; simp
      · rw [if_neg a2, if_neg (by omega), if_neg (by omega)]

inductive PRel (m : Mp) : List (Nat × Value) → List (Nat × Value) → Prop where
  | nil : PRel m [] []
  | cons {i : Nat} {v v' : Value} {l l' : List (Nat × Value)} : VRel m v v' → PRel m l l' → PRel m ((i, v) :: l) ((i, v') :: l')

theorem PRel.map {α : Type} (f : α → Nat) {g k : α → Value} : ∀ {l : List α}, (∀ x ∈ l, VRel m (g x) (k x)) → PRel m (l.map fun p => (f p, g p)) (l.map fun p => (f p, k p))
  | [], _ => .nil
  | x :: l, h => .cons (h x (by simp)) (PRel.map f fun y hy => h y (by simp [hy]))

theorem fill_rel {place place' : Nat → Option (Nat × Nat)} (hp : ∀ i p, place i = some p → place' i = some p) : ∀ {ps ps' : List (Nat × Value)}, PRel m ps ps' → ∀ {cs r : List Value} {cs' : Array Value},
    fillA place cs ps = some r → VRelL m cs cs'.toList → ∃ r' : Array Value, Instr.fill place' cs' ps' = some r' ∧ VRelL m r r'.toList
  | _, _, .nil, cs, r, cs', h, hr => by simp only [fillA, Option.some.injEq] at h; subst h; exact ⟨cs', rfl, hr⟩
  | _, _, .cons (i := i) (v := v) (v' := v') (l := l) (l' := l') hv hl, cs, r, cs', h, hr => by
    simp only [fillA] at h
    cases h1 : place i with
    | none => simp [h1] at h
    | some p =>
      obtain ⟨off, size⟩ := p
      simp only [h1] at h
      cases h2 : Nat.beq (cellsOf v).length size with
      | false => simp [h2] at h
      | true =>
        have h2' := Nat.eq_of_beq_eq_true h2
        simp only [h2] at h
        cases h3 : putAt off (cellsOf v) cs with
        | none => simp [h3] at h
        | some cs1 =>
          simp only [h3] at h
          have hvc := hv.cells
          have hlen := hvc.length
          have hpl := (putAt_eq _ _ _ _ h3).2
          have hcl := hr.length
          simp only [Array.length_toList] at hlen hcl
          obtain ⟨r1, k1, k2, k3⟩ := foldl_set off v'.cells.toList 0 cs' (by simp; omega)
          have hrel1 : VRelL m cs1 r1.toList := by
            refine VRelL.of_get (by rw [putAt_length h3]; simp; omega) fun j x hx => ?_
            rw [putAt_get h3] at hx
            rw [Array.getElem?_toList, k3 j]
            split at hx
            · rename_i hin
              obtain ⟨x', a1, a2⟩ := hvc.get hx
              exact ⟨x', by rw [if_pos (by simp; omega), ← a1]; congr 1, a2⟩
            · rename_i hin
              obtain ⟨x', a1, a2⟩ := hr.get hx
              exact ⟨x', by rw [if_neg (by simp; omega)]; simpa using a1, a2⟩
          obtain ⟨r', g1, g2⟩ := fill_rel hp hl h hrel1
          refine ⟨r', ?_, g2⟩
          simp only [Instr.fill, hp _ _ h1]
          rw [if_neg (by simp only [Bool.or_eq_true, decide_eq_true_eq]; omega)]
          rw [← Array.foldl_toList, Array.toList_zipIdx]
          rw [show (fun (cs : Array Value) (x : Value × Nat) => match x with | (c, j) => cs.setIfInBounds (off + j) c) = (fun cs x => cs.setIfInBounds (off + x.2) x.1) from rfl, k1]
          exact g1

theorem fieldPls_mapM : ∀ (fs : List Field) (l : List (Nat × Nat)), fieldPls P fs = some l → fs.mapM (fun f => (P.info? f.type).map fun i => (f.offset, i.size)) = some l
  | [], l, h => by simp [fieldPls] at h; simp [h]
  | f :: fs, l, h => by
    simp only [fieldPls] at h
    cases h1 : sizeOf' P f.type with
    | none => simp [h1] at h
    | some k =>
      cases h2 : fieldPls P fs with
      | none => simp [h1, h2] at h
      | some q =>
        simp only [h1, h2, Option.some.injEq] at h
        subst h
        unfold sizeOf' at h1
        cases hi : P.info? f.type with
        | none => simp [hi] at h1
        | some i =>
          simp [hi] at h1
          simp [List.mapM_cons, hi, h1, fieldPls_mapM fs q h2]

theorem sim_aggOf (h : HRel m s.H w base) {o : Option (List Value)} {y : Sem Value} (hy : ∀ cs, o = some cs → ∃ c : Array Value, y.run P w = .ok (.agg c) w ∧ VRelL m cs c.toList) : Sim P base m s w (aggOf o) y VR := by
  cases o with
  | none => exact Sim.fail
  | some cs => obtain ⟨c, h1, h2⟩ := hy cs rfl; exact Sim.retVal h h1 (.agg (by simpa using h2))

theorem sim_build (ok : POk P) (h : HRel m s.H w base) (t : TypeId) {ps : List (Nat × Value)} {ps' : Array (Nat × Value)} (hp : PRel m ps ps'.toList) : Sim P base m s w (opBuild P t ps) (Instr.build t ps') VR := by
  unfold opBuild
  cases hz : zero' P t with
  | none => exact Sim.fail
  | some z =>
    have hzr := (closed_rel m 8 z (ok.zero t z hz)).cells
    cases hu : P.underlying t with
    | none => exact Sim.fail
    | some d =>
      cases d <;> try exact Sim.fail
      case struct fields =>
        (try simp only [])
        cases hl : fieldPls P fields.toList with
        | none => exact Sim.fail
        | some l =>
          refine sim_aggOf h fun cs hcs => ?_
          obtain ⟨r', g1, g2⟩ := fill_rel (place' := fun i => l[i]?) (fun i p hi => by rw [nth_eq] at hi; exact hi) hp hcs hzr
          refine ⟨r', ?_, g2⟩
          simp [Instr.build, run_zero hz, run_under hu, Array.mapM_eq_mapM_toList, run_places w _ _ (fieldPls_mapM _ _ hl), g1]
      case array n e =>
        (try simp only [])
        cases hk : sizeOf' P e with
        | none => exact Sim.fail
        | some k =>
          refine sim_aggOf h fun cs hcs => ?_
          obtain ⟨r', g1, g2⟩ := fill_rel (place' := fun i => some (i * k, k)) (fun i p hi => hi) hp hcs hzr
          exact ⟨r', by simp [Instr.build, run_zero hz, run_under hu, run_sizeOf hk, g1], g2⟩

theorem zeros_eq (z : Array Value) : ∀ n, ((Array.range (n * z.size)).map (z[· % z.size]!)).toList = zeros z.toList n := by
  intro n
  apply List.ext_getElem?
  intro i
  have hz : ∀ n i, (zeros z.toList n)[i]? = if i < n * z.size then some (z[i % z.size]!) else none := by
    intro n
    induction n with
    | zero => intro i; simp [zeros]
    | succ n ih =>
      intro i
      simp only [zeros, List.getElem?_append, Array.length_toList]
      by_cases h1 : i < z.size
      · rw [if_pos h1, if_pos (by rw [Nat.succ_mul]; omega), Nat.mod_eq_of_lt h1]
        simp [h1]
      · rw [if_neg h1, ih]
        by_cases h2 : z.size = 0
        · rw [if_neg (by simp [h2]), if_neg (by simp [h2])]
        · rw [show i % z.size = (i - z.size) % z.size from Nat.mod_eq_sub_mod (by omega)]
          by_cases h3 : i - z.size < n * z.size
          · rw [if_pos h3, if_pos (by rw [Nat.succ_mul]; omega)]
          · rw [if_neg h3, if_neg (by rw [Nat.succ_mul]; omega)]
  rw [hz, Array.getElem?_toList, Array.getElem?_map]
  by_cases h : i < n * z.size
  · rw [if_pos h]; simp [h]
  · rw [if_neg h]; simp [Array.getElem?_eq_none, h]
theorem zeros_rel {l l' : List Value} (h : VRelL m l l') : ∀ n, VRelL m (zeros l n) (zeros l' n)
  | 0 => .nil
  | n + 1 => h.append (zeros_rel h n)
theorem zeros_length (l : List Value) : ∀ n, (zeros l n).length = n * l.length
  | 0 => by simp [zeros]
  | n + 1 => by simp [zeros, zeros_length l n, Nat.succ_mul, Nat.add_comm]

theorem cells_cellsOf (z : Value) : z.cells.toList = cellsOf z := by cases z <;> rfl

theorem madeZeros {e : TypeId} {z : Value} {k : Nat} (hk : z.cells.size = k) (n : Nat) : (madeCells z.cells (n * k)).toList = zeros (cellsOf z) n := by
  subst hk
  rw [← cells_cellsOf, ← zeros_eq]; rfl

theorem sim_newSlice (h : HRel m s.H w base) {cs : List Value} {c : Array Value} (t : TypeId) (esz l n : Nat) (hv : VRelL m cs c.toList) :
    Sim P base m s w (M.bnd (newRow cs [] esz) fun b => M.ret (.val (.slice (some ⟨b, 0, none⟩) l (2 * n + 1)))) (do pure (.slice (some (← Go.newRow t c)) l n)) VR :=
  Sim.map (sim_newRow h t esz hv) fun m b a hr => by
    obtain ⟨⟨k, h1, h2, h3, rfl⟩, _⟩ := hr
    have := VRel.sliceE (m := m) (b := b) (i := 0) (n := l) (c := n) h1
    rw [h2] at this
    exact ⟨_, rfl, this⟩

theorem sim_buildSlice (ok : POk P) (h : HRel m s.H w base) (t : TypeId) (len : Nat) {ps : List (Nat × Value)} {ps' : Array (Nat × Value)} (hp : PRel m ps ps'.toList) :
    Sim P base m s w (opBuildSlice P t len ps) (Instr.buildSlice t len ps') VR := by
  unfold opBuildSlice
  cases hu : P.underlying t with
  | none => exact Sim.fail
  | some d =>
    cases d <;> try exact Sim.fail
    case slice e =>
      (try simp only [])
      cases hk : sizeOf' P e with
      | none => exact Sim.fail
      | some k =>
        cases hz : zero' P e with
        | none => exact Sim.fail
        | some z =>
          (try simp only [])
          cases hb : Nat.ble (len * k) (2 ^ 24) with
          | false => exact Sim.fail
          | true =>
            (try simp only [])
            cases hf : fillA (fun i => some (i * k, k)) (zeros (cellsOf z) len) ps with
            | none => exact Sim.fail
            | some cs =>
              have hzs := ok.zsize e z hz
              rw [hk] at hzs
              have hk2 : z.cells.size = k := by rw [← Array.length_toList, cells_cellsOf]; simpa using hzs.symm
              have hi : ∃ ie, P.info? e = some ie ∧ ie.size = k ∧ ie.zero = some z := by
                unfold zero' at hz
                cases ht : P.types[e]? with
                | none => simp [ht] at hz
                | some i =>
                  simp only [ht] at hz
                  obtain ⟨q1, q2⟩ := Array.getElem?_eq_some_iff.1 ht
                  have hie : P.info? e = some i := by simp [Tables.info?, q1, q2]
                  refine ⟨i, hie, ?_, hz⟩
                  simp [sizeOf', hie] at hk; exact hk
              obtain ⟨ie, hie, hisz, hiz⟩ := hi
              have hzr : VRelL m (zeros (cellsOf z) len) (madeCells z.cells (len * k)).toList := by
                rw [madeZeros (e := e) hk2]; exact zeros_rel (by have := (closed_rel m 8 z (ok.zero e z hz)).cells; rw [cells_cellsOf] at this; exact this) len
              obtain ⟨r', g3, g4⟩ := fill_rel (place' := fun i => some (i * k, k)) (fun i p hi => hi) hp hf hzr
              refine Sim.run (sim_newSlice h e 0 len len g4) ?_
              have hle := Nat.le_of_ble_eq_true hb
              subst hisz
              by_cases h0 : len * ie.size = 0
              · have hm : madeCells z.cells (len * ie.size) = #[] := by rw [h0]; simp [madeCells]
                rw [hm] at g3
                simp [Instr.buildSlice, run_under hu, run_sizeOf hk, h0, g3, Go.newRow, Array.range_zero']
              · rw [run_buildSlice w t e len ps' r' ie z hu hie hiz (by omega) h0 g3]
                rfl

theorem sim_makeSlice (ok : POk P) (h : HRel m s.H w base) (t : TypeId) {l c l' c' : Value} (hl : VRel m l l') (hc : VRel m c c') : Sim P base m s w (opMakeSlice P t l c) (Instr.makeSlice t l' c') VR := by
  unfold opMakeSlice
  cases hu : P.underlying t with
  | none => exact Sim.fail
  | some d =>
    cases d <;> try exact Sim.fail
    case slice e =>
      (try simp only [])
      cases hnl : nat? l with
      | none => exact Sim.fail
      | some ln =>
        cases hnc : nat? c with
        | none => exact Sim.fail
        | some cn =>
          (try simp only [])
          cases hi : P.info? e with
          | none => exact Sim.fail
          | some info =>
            cases hz : zero' P e with
            | none => exact Sim.fail
            | some z =>
              (try simp only [])
              cases hb : Nat.ble ln cn && Nat.ble (cn * info.bytes) (2 ^ 40) && Nat.ble cn (2 ^ 40) with
              | false => exact Sim.fail
              | true =>
                simp only [Bool.and_eq_true] at hb
                obtain ⟨⟨b1, b2⟩, b3⟩ := hb
                have b1 := Nat.le_of_ble_eq_true b1
                have b2 := Nat.le_of_ble_eq_true b2
                have b3 := Nat.le_of_ble_eq_true b3
                obtain ⟨kl, rfl⟩ : ∃ k, l = .int k (.ofNat ln) := by unfold nat? at hnl; split at hnl <;> simp at hnl; subst hnl; exact ⟨_, rfl⟩
                obtain ⟨kc, rfl⟩ : ∃ k, c = .int k (.ofNat cn) := by unfold nat? at hnc; split at hnc <;> simp at hnc; subst hnc; exact ⟨_, rfl⟩
                cases hl.int_inv; cases hc.int_inv
                have hzs := ok.zsize e z hz
                have hk : sizeOf' P e = some info.size := by simp [sizeOf', hi]
                rw [hk] at hzs
                have hk2 : z.cells.size = info.size := by rw [← Array.length_toList, cells_cellsOf]; simpa using hzs.symm
                have hiz : info.zero = some z := by
                  unfold zero' at hz
                  cases ht : P.types[e]? with
                  | none => simp [ht] at hz
                  | some i =>
                    simp only [ht] at hz
                    obtain ⟨q1, q2⟩ := Array.getElem?_eq_some_iff.1 ht
                    have hie : P.info? e = some i := by simp [Tables.info?, q1, q2]
                    rw [hi] at hie; cases hie; exact hz
                have hzr : VRelL m (zeros (cellsOf z) cn) (madeCells z.cells (cn * info.size)).toList := by
                  rw [madeZeros (e := e) hk2]; exact zeros_rel (by have := (closed_rel m 8 z (ok.zero e z hz)).cells; rw [cells_cellsOf] at this; exact this) cn
                simp only [mkSlice_eq]
                refine Sim.run (sim_newSlice h e info.size ln cn hzr) ?_
                have hcb : (info.bytes : Int) * (cn : Int) ≤ 281474976710656 := by
                  have : ((cn * info.bytes : Nat) : Int) ≤ ((2 ^ 40 : Nat) : Int) := by exact_mod_cast b2
                  rw [Int.mul_comm]
                  have h2 : ((cn * info.bytes : Nat) : Int) = (cn : Int) * (info.bytes : Int) := by simp
                  rw [← h2]; omega
                rw [run_make w t e info z hu hi hiz kl kc (Int.ofNat ln) (Int.ofNat cn) (by simp) (by simpa using b1) hcb (by simp; omega)]
                rfl

theorem addrOf_some {v : Value} {b i : Nat} (h : addrOf v = some (b, i)) : v = .pointer (some ⟨b, i, none⟩) := by
  unfold addrOf at h
  split at h
  · cases h; rfl
  · cases h
theorem VRel.ptr_inv {b i : Nat} {v' : Value} (h : VRel m (.pointer (some ⟨b, i, none⟩)) v') : ∃ l, m b = some l ∧ v' = .pointer (some ⟨l.cb, l.off + i, none⟩) := by
  cases h with
  | atom k => simp [atomic] at k
  | ptr k => exact ⟨_, k, rfl⟩

theorem sim_load (h : HRel m s.H w base) (t : TypeId) {a a' : Value} (ha : VRel m a a') : Sim P base m s w (opLoad P t a) (Instr.loadAt t a') VR := by
  unfold opLoad
  cases hA : addrOf a with
  | none => exact Sim.fail
  | some p =>
    obtain ⟨b, i⟩ := p
    have := addrOf_some hA
    subst this
    obtain ⟨l, h1, rfl⟩ := ha.ptr_inv
    exact Sim.run (Sim.asVal (sim_loadV h t h1)) (by simp [Instr.loadAt, Instr.sureAddr])
theorem sim_store (h : HRel m s.H w base) (t : TypeId) {a a' x x' : Value} (ha : VRel m a a') (hx : VRel m x x') : Sim P base m s w (opStore P t a x) (Instr.storeAt t a' x') fun _ r _ => r = .val undefV := by
  unfold opStore
  cases hA : addrOf a with
  | none => exact Sim.fail
  | some p =>
    obtain ⟨b, i⟩ := p
    have := addrOf_some hA
    subst this
    obtain ⟨l, h1, rfl⟩ := ha.ptr_inv
    intro r s' e hf
    obtain ⟨u, s1, h2, h3⟩ := M.bnd_some e
    obtain ⟨rfl, rfl⟩ := M.ret_some h3
    obtain ⟨m', b', w', r1, st, _⟩ := sim_storeV (P := P) h t h1 hx u s' h2 hf
    exact ⟨m', (), w', by simp [Instr.storeAt, Instr.sureAddr, r1], st, rfl⟩

theorem run_nilDeref {α : Type} : (runtimePanic .nilDeref : Sem α).run P w = .halt (.panic (nilDeref P)) w := by
  simp [runtimePanic, nilDeref]

theorem sim_nilCheck (h : HRel m s.H w base) {o : Oper} {x : Operand} {ρ' : Operand → Value} {a : Value} (ho : o.op = .nilCheck x) (ha : VRel m a (ρ' x)) : SimOp P base m s w (opNilCheck P a) (execOp ρ' o) := by
  generalize hv : ρ' x = v' at ha
  have hpan : (v' = .pointer none ∨ v' = .nilIface ∨ v' = .nilFunc) → SimOp P base m s w (M.ret (.panic (nilDeref P))) (execOp ρ' o) := by
    intro hh r s' e hf
    obtain ⟨rfl, rfl⟩ := M.ret_some e
    refine ⟨m, w, Step.refl h, nilDeref P, ?_, .iface (.atom rfl)⟩
    rcases hh with rfl | rfl | rfl <;> simp only [execOp, ho, hv] <;> exact run_nilDeref
  unfold opNilCheck
  split
  · exact hpan (by cases ha; exact .inl rfl)
  · exact hpan (by cases ha; exact .inr (.inl rfl))
  · exact hpan (by cases ha; exact .inr (.inr rfl))
  · exact SimOp.fail
  · rename_i h1 h2 h3 h4
    refine SimOp.retVal h ?_ ha
    simp only [execOp, ho, hv]
    cases ha with
    | atom k =>
      cases a <;> first | rfl | (simp [atomic] at k; done) | (exact absurd rfl h2) | (exact absurd rfl h3) | (rename_i q; cases q <;> first | exact absurd rfl h1 | rfl | simp [atomic] at k)
    | func _ _ => rename_i fn f f' c c' _ _; cases fn <;> first | rfl | exact absurd rfl (h4 _ _ _)
    | _ => rfl

theorem run_un {op : UnOp} {a a' v : Value} (h : unV op a = some v) (ha : VRel m a a') : (Op.unary op a').run P w = .ok v w ∧ VRel m v v := by
  unfold unV at h
  split at h
  · cases ha.int_inv; simp only [mkInt_eq, Option.some.injEq] at h; subst h; exact ⟨by simp [Op.unary, Op.intArith], .atom rfl⟩
  · cases ha.int_inv; simp only [mkInt_eq, Option.some.injEq] at h; subst h; exact ⟨by simp [Op.unary, Op.intBits], .atom rfl⟩
  · cases ha.bool_inv; cases h; exact ⟨by simp [Op.unary], .atom rfl⟩
  · cases h

theorem sim_iface (h : HRel m s.H w base) (t : TypeId) {a a' : Value} (ha : VRel m a a') : Sim P base m s w (opIface P t a) (Instr.makeInterface t a') VR := by
  unfold opIface
  cases hu : P.underlying t with
  | none => exact Sim.fail
  | some d =>
    cases d <;> first | exact Sim.fail | exact Sim.retVal h (by simp [Instr.makeInterface, run_under hu]) (.iface ha)

theorem fieldAddr_place {f : Field} {k l : Nat} {cb : Nat} (hk : sizeOf' P f.type = some (k + 1)) : (fieldPlace ⟨cb, l, none⟩ f).run P w = .ok ⟨cb, l + f.offset, none⟩ w := by
  simp [fieldPlace, run_sizeOf hk, Addr.add_plain]

theorem sim_fieldAddr (h : HRel m s.H w base) (t : TypeId) (f : Nat) {a a' : Value} (ha : VRel m a a') : Sim P base m s w (opFieldAddr P t a f) (Instr.fieldAt t a' f) VR := by
  unfold opFieldAddr
  cases hu : P.underlying t with
  | none => exact Sim.fail
  | some d =>
    cases hA : addrOf a with
    | none => cases d <;> exact Sim.fail
    | some p =>
      obtain ⟨b, i⟩ := p
      have := addrOf_some hA
      subst this
      obtain ⟨l, h1, rfl⟩ := ha.ptr_inv
      cases d <;> try exact Sim.fail
      case struct fields =>
        (try simp only [])
        cases hfd : fields[f]? with
        | none => exact Sim.fail
        | some fd =>
          (try simp only [])
          cases hk : sizeOf' P fd.type with
          | none => exact Sim.fail
          | some k =>
            cases k with
            | zero => exact Sim.fail
            | succ k =>
              simp only [force_eq]
              refine Sim.retVal h (v' := .pointer (some ⟨l.cb, l.off + (i + fd.offset), none⟩)) ?_ (.ptr h1)
              simp [Instr.fieldAt, run_under hu, hfd, Instr.sureAddr, fieldAddr_place hk, Nat.add_assoc]

theorem VRel.agg_inv {c : Array Value} {v' : Value} (h : VRel m (.agg c) v') : ∃ c', v' = .agg c' ∧ VRelL m c.toList c'.toList := by
  cases h with
  | atom k => simp [atomic] at k
  | agg k => exact ⟨_, rfl, k⟩
theorem VRel.tuple_inv {c : Array Value} {v' : Value} (h : VRel m (.tuple c) v') : ∃ c', v' = .tuple c' ∧ VRelL m c.toList c'.toList := by
  cases h with
  | atom k => simp [atomic] at k
  | tuple k => exact ⟨_, rfl, k⟩

theorem sim_field (h : HRel m s.H w base) (t : TypeId) (f : Nat) {a a' : Value} (ha : VRel m a a') : Sim P base m s w (opField P t a f) (Instr.field t a' f) VR := by
  unfold opField
  cases hu : P.underlying t with
  | none => exact Sim.fail
  | some d =>
    cases d <;> try exact Sim.fail
    case struct fields =>
      cases a <;> try exact Sim.fail
      case agg cs =>
        obtain ⟨c', rfl, hc⟩ := ha.agg_inv
        (try simp only [])
        cases hfd : fields[f]? with
        | none => exact Sim.fail
        | some fd =>
          refine Sim.optVal h fun v hv => ?_
          obtain ⟨v', r1, r2⟩ := part_rel (w := w) hv hc
          exact ⟨v', by simp [Instr.field, run_under hu, hfd, asAgg, r1], r2⟩

theorem nat?_some {v : Value} {n : Nat} (h : nat? v = some n) : ∃ k, v = .int k (.ofNat n) := by
  unfold nat? at h
  split at h
  · cases h; exact ⟨_, rfl⟩
  · cases h

theorem sim_index (h : HRel m s.H w base) (t : TypeId) {a a' i i' : Value} (ha : VRel m a a') (hi : VRel m i i') : Sim P base m s w (opIndex P t a i) (Instr.index t a' i') VR := by
  unfold opIndex
  cases hu : P.underlying t with
  | none => exact Sim.fail
  | some d =>
    cases hn : nat? i with
    | none => cases d <;> cases a <;> exact Sim.fail
    | some j =>
      obtain ⟨k, rfl⟩ := nat?_some hn
      cases hi.int_inv
      cases d <;> try exact Sim.fail
      case array n e =>
        cases a <;> try exact Sim.fail
        case agg cs =>
          obtain ⟨c', rfl, hc⟩ := ha.agg_inv
          (try simp only [])
          cases hk : sizeOf' P e with
          | none => exact Sim.fail
          | some k =>
            cases hb : Nat.blt j n with
            | false => exact Sim.fail
            | true =>
              rw [Nat.blt_eq] at hb
              refine Sim.optVal h fun v hv => ?_
              obtain ⟨v', r1, r2⟩ := part_rel (w := w) hv hc
              refine ⟨v', ?_, r2⟩
              simp only [Instr.index, asIntOf, Sem.run_bind, Sem.run_pure, Result.andThen_ok, run_under hu]
              rw [if_pos (by constructor <;> simp; omega)]
              simp only [Sem.run_bind, run_sizeOf hk, Result.andThen_ok]
              exact r1
      case string =>
        cases a <;> try exact Sim.fail
        case string str =>
          cases ha.string_inv
          (try simp only [])
          cases hb : nth str.data.toList j with
          | none => exact Sim.fail
          | some b =>
            rw [nth_eq] at hb
            refine Sim.retVal h (v' := .int .u8 b.toNat) ?_ (.atom rfl)
            have hb2 : str[j]? = some b := by
              obtain ⟨q1, q2⟩ := List.getElem?_eq_some_iff.1 hb
              have hlt : j < str.size := by simpa using q1
              have : str[j]? = some str[j] := getElem?_pos str j hlt
              rw [this]
              congr 1
            simp [Instr.index, asIntOf, run_under hu, hb2]

theorem sim_ptrAt (h : HRel m s.H w base) {b i n e j : Nat} {l : Lc} (hl : m b = some l) {y : Sem Value} (hy : ∀ k, sizeOf' P e = some k → j < n → y.run P w = .ok (.pointer (some ⟨l.cb, l.off + i + j * k, none⟩)) w) :
    Sim P base m s w (ptrAt P b i n e j) y VR := by
  unfold ptrAt
  cases hk : sizeOf' P e with
  | none => exact Sim.fail
  | some k =>
    cases hb : Nat.blt j n with
    | false => exact Sim.fail
    | true =>
      rw [Nat.blt_eq] at hb
      simp only [force_eq]
      exact Sim.retVal h (hy k hk hb) (by rw [Nat.add_assoc]; exact .ptr hl)

theorem sim_indexAddr (h : HRel m s.H w base) (t : TypeId) {a a' i i' : Value} (ha : VRel m a a') (hi : VRel m i i') : Sim P base m s w (opIndexAddr P t a i) (Instr.indexAt t a' i') VR := by
  unfold opIndexAddr
  split
  · rename_i n e b o j hu hn
    obtain ⟨l, h1, rfl⟩ := ha.ptr_inv
    obtain ⟨k, rfl⟩ := nat?_some hn
    cases hi.int_inv
    refine sim_ptrAt h h1 fun k hk hlt => ?_
    simp only [Instr.indexAt, asIntOf, Instr.sureAddr, Sem.run_bind, Sem.run_pure, Result.andThen_ok, run_under hu]
    rw [if_pos (by constructor <;> simp; omega)]
    simp [run_sizeOf hk, Addr.add_plain]
  · rename_i e b o n c j hu hn
    obtain ⟨k, rfl⟩ := nat?_some hn
    cases hi.int_inv
    have key : ∀ (l : Lc) (c' : Nat), m b = some l → Sim P base m s w (ptrAt P b o n e j) (Instr.indexAt t (.slice (some ⟨l.cb, l.off + o, none⟩) n c') (.int k (.ofNat j))) VR := by
      intro l c' h1
      refine sim_ptrAt h h1 fun k hk hlt => ?_
      simp only [Instr.indexAt, asIntOf, Instr.sureAddr, Sem.run_bind, Sem.run_pure, Result.andThen_ok, run_under hu]
      rw [if_pos (by constructor <;> simp; omega)]
      simp [run_sizeOf hk, Addr.add_plain]
    cases ha with
    | atom k => simp [atomic] at k
    | sliceE h1 => exact key _ _ h1
    | sliceI h1 _ _ _ _ => exact key _ _ h1
  · exact Sim.fail

theorem sim_extract (h : HRel m s.H w base) (i : Nat) {a a' : Value} (ha : VRel m a a') : Sim P base m s w (opExtract a i) (Instr.extract a' i) VR := by
  unfold opExtract
  cases a <;> try exact Sim.fail
  case tuple vs =>
    obtain ⟨c', rfl, hc⟩ := ha.tuple_inv
    refine Sim.optVal h fun v hv => ?_
    rw [nth_eq] at hv
    obtain ⟨v', r1, r2⟩ := hc.get hv
    refine ⟨v', ?_, r2⟩
    have : c'[i]? = some v' := by simpa using r1
    simp [Instr.extract, this]

theorem sim_assert (ok : POk P) (h : HRel m s.H w base) (st asserted : TypeId) (okk : Bool) {a a' : Value} (ha : VRel m a a') : Sim P base m s w (opAssert P a asserted okk) (Instr.typeAssert a' st asserted okk) VR := by
  have hnot : ∀ {d : TypeDesc} {st' dy : Option TypeId}, P.underlying asserted = some d → (∀ y : Sem Value, (∀ z, zero' P asserted = some z → okk = true → y.run P w = .ok (.tuple #[z, .bool false]) w) → Sim P base m s w (notThat P asserted okk) y VR) := by
    intro d st' dy hu y hy
    unfold notThat
    cases okk with
    | false => cases zero' P asserted <;> exact Sim.fail
    | true =>
      cases hz : zero' P asserted with
      | none => exact Sim.fail
      | some z =>
        have hzr := closed_rel m 8 z (ok.zero _ z hz)
        exact Sim.retVal h (hy z hz rfl) (.tuple (.cons hzr (.cons (.atom rfl) .nil)))
  unfold opAssert
  cases hu : P.underlying asserted with
  | none => exact Sim.fail
  | some d =>
    have main : (∀ ms, d ≠ .interface ms) → Sim P base m s w (assertTo P asserted okk a) (Instr.typeAssert a' st asserted okk) VR := by
      intro hd
      cases a <;> try exact Sim.fail
      case iface t y =>
        cases ha with
        | atom k => simp [atomic] at k
        | iface hy =>
          rename_i y'
          unfold assertTo
          (try simp only [])
          cases hb : Nat.beq t asserted with
          | true =>
            have := Nat.eq_of_beq_eq_true hb
            subst this
            cases okk with
            | true => exact Sim.retVal h (v' := .tuple #[y', .bool true]) (by cases d <;> first | exact absurd rfl (hd _) | simp [Instr.typeAssert, run_under hu]) (.tuple (.cons hy (.cons (.atom rfl) .nil)))
            | false => exact Sim.retVal h (v' := y') (by cases d <;> first | exact absurd rfl (hd _) | simp [Instr.typeAssert, run_under hu]) hy
          | false =>
            have hne : t ≠ asserted := fun e => by subst e; simp at hb
            refine hnot (st' := none) (dy := none) hu _ fun z hz hok => ?_
            subst hok
            cases d <;> first | exact absurd rfl (hd _) | simp [Instr.typeAssert, run_under hu, hne, run_zero hz]
      case nilIface =>
        cases ha
        refine hnot (st' := none) (dy := none) hu _ fun z hz hok => ?_
        subst hok
        cases d <;> first | exact absurd rfl (hd _) | simp [Instr.typeAssert, run_under hu, run_zero hz]
    cases d <;> first | exact Sim.fail | exact main (by simp)
end
end Go.Shade

/- The evaluator's operations beside the model's. Part 3: slices, conversions, append, maps. -/
namespace Go.Shade
open Go.RowKit
set_option linter.unusedVariables false

section
variable {P : Program} {base : Nat} {m : Mp} {s : S} {w : World}

/-- What a bound reads as. -/
theorem natO_some {o o' : Option Value} {r : Option Nat} (h : natO o = some r) (hr : ∀ v, o = some v → ∃ v', o' = some v' ∧ VRel m v v') (hn : o = none → o' = none) :
    (r = none ∧ o' = none) ∨ ∃ k n, r = some n ∧ o' = some (.int k (.ofNat n)) := by
  cases o with
  | none => simp [natO] at h; exact .inl ⟨h.symm, hn rfl⟩
  | some v =>
    simp only [natO] at h
    cases h1 : nat? v with
    | none => simp [h1] at h
    | some n =>
      simp only [h1, Option.some.injEq] at h
      obtain ⟨k, rfl⟩ := nat?_some h1
      obtain ⟨v', h2, h3⟩ := hr _ rfl
      cases h3.int_inv
      exact .inr ⟨k, n, h.symm, h2⟩

theorem run_bound (k : IntKind) {n y : Nat} (c : BoundsCode) (h : n ≤ y) : (Instr.sliceBound (.int k (.ofNat n)) y c).run P w = .ok n w := by
  simp only [Instr.sliceBound, asIntOf, Sem.run_bind, Sem.run_pure, Result.andThen_ok]
  rw [if_pos (by constructor <;> simp; omega)]
  simp

theorem run_bound' (k : IntKind) {n y : Nat} (c : BoundsCode) (h : n ≤ y) : (Instr.sliceBound (.int k (n : Int)) y c).run P w = .ok n w := run_bound k c h

/-- The three bounds of a slice expression, where they hold. -/
theorem run_bounds (isS : Bool) {len cap : Nat} {lo hi mx : Option Nat} {lo' hi' mx' : Option Value} (hlo : (lo = none ∧ lo' = none) ∨ ∃ k n, lo = some n ∧ lo' = some (.int k (.ofNat n)))
    (hhi : (hi = none ∧ hi' = none) ∨ ∃ k n, hi = some n ∧ hi' = some (.int k (.ofNat n))) (hmx : (mx = none ∧ mx' = none) ∨ ∃ k n, mx = some n ∧ mx' = some (.int k (.ofNat n)))
    (h1 : mx.getD cap ≤ cap) (h2 : hi.getD len ≤ mx.getD cap) (h3 : lo.getD 0 ≤ hi.getD len) (h4 : mx.isSome → hi.isSome) :
    (Instr.sliceBounds isS len cap lo' hi' mx').run P w = .ok (lo.getD 0, hi.getD len, mx.getD cap) w := by
  unfold Instr.sliceBounds
  rcases hmx with ⟨rfl, rfl⟩ | ⟨km, nm, rfl, rfl⟩ <;> rcases hhi with ⟨rfl, rfl⟩ | ⟨kh, nh, rfl, rfl⟩ <;> rcases hlo with ⟨rfl, rfl⟩ | ⟨kl, nl, rfl, rfl⟩ <;>
    simp only [Option.getD_none, Option.getD_some] at h1 h2 h3 h4 ⊢ <;>
    first
      | (simp at h4; done)
      | (simp [run_bound', h1, h2, h3])

theorem capOf_odd (a : Addr) (c : Nat) : capOf (some a) (2 * c + 1) = (c, true) := by
  have h1 : (2 * c + 1) % 2 = 1 := by omega
  have h2 : (2 * c + 1) / 2 = c := by omega
  simp [capOf, h1, h2]
theorem capOf_even (a : Addr) (c : Nat) {k : Nat} (hk : k < 65536) : capOf (some a) (codeI c k) = (c, false) := by
  have h1 : codeI c k % 2 = 0 := by unfold codeI; omega
  have h2 : codeI c k / 2 / 65536 = c := by unfold codeI; omega
  simp [capOf, h1, h2]
theorem eszOf_code (c : Nat) {k : Nat} (hk : k < 65536) : eszOf (codeI c k) = k := by unfold eszOf codeI; omega

theorem maxRel {k c l h mm : Nat} {a a' : Option Addr} {v : Value} (e : sliceMax k a c l h mm = some v)
    (ha : (a = none ∧ a' = none ∧ c = 0) ∨ (a = some voidA ∧ c = 0 ∧ ∃ x, a' = some x) ∨ ∃ b i lc, m b = some lc ∧ a = some ⟨b, i, none⟩ ∧ a' = some ⟨lc.cb, lc.off + i, none⟩) :
    mm ≤ c ∧ h ≤ mm ∧ l ≤ h ∧ VRel m v (.slice (if mm = l then a' else a'.map (·.add (l * k))) (h - l) (mm - l)) := by
  unfold sliceMax at e
  cases hb : Nat.ble mm c && Nat.ble h mm && Nat.ble l h with
  | false => simp [hb] at e
  | true =>
    simp only [hb, mkSlice_eq, Option.some.injEq] at e
    simp only [Bool.and_eq_true] at hb
    obtain ⟨⟨b1, b2⟩, b3⟩ := hb
    have b1 := Nat.le_of_ble_eq_true b1
    have b2 := Nat.le_of_ble_eq_true b2
    have b3 := Nat.le_of_ble_eq_true b3
    refine ⟨b1, b2, b3, ?_⟩
    subst e
    rcases ha with ⟨rfl, rfl, rfl⟩ | ⟨rfl, rfl, x, rfl⟩ | ⟨b, i, lc, hm, rfl, rfl⟩
    · obtain rfl : mm = 0 := by omega
      obtain rfl : h = 0 := by omega
      obtain rfl : l = 0 := by omega
      exact .nilSlice
    · obtain rfl : mm = 0 := by omega
      obtain rfl : h = 0 := by omega
      obtain rfl : l = 0 := by omega
      exact .voidE
    · by_cases hml : mm = l
      · subst hml
        rw [if_pos rfl, show Nat.beq mm mm = true from Nat.beq_refl mm]
        exact .sliceE hm
      · rw [if_neg hml, show Nat.beq mm l = false from by cases hq : Nat.beq mm l with | true => exact absurd (Nat.eq_of_beq_eq_true hq) hml | false => rfl]
        simp only [addO, addA, force_eq, Option.map_some, Addr.add_plain, Nat.add_assoc]
        exact .sliceE hm

/-- A slice of a slice. -/
theorem rel_sliceV {k len code len' cap' : Nat} {a a' : Option Addr} {lo hi mx : Option Nat} {v : Value} (e : sliceV k a len code lo hi mx = some v) (hr : VRel m (.slice a len code) (.slice a' len' cap')) :
    mx.getD cap' ≤ cap' ∧ hi.getD len ≤ mx.getD cap' ∧ lo.getD 0 ≤ hi.getD len ∧ (mx.isSome → hi.isSome) ∧ len' = len ∧
    VRel m v (.slice (if mx.getD cap' = lo.getD 0 then a' else a'.map (·.add (lo.getD 0 * k))) (hi.getD len - lo.getD 0) (mx.getD cap' - lo.getD 0)) := by
  -- what is known of the capacity
  obtain ⟨hlen, c, ex, hcap, hle, hex, ha, hI⟩ : len' = len ∧ ∃ c ex, capOf a code = (c, ex) ∧ c ≤ cap' ∧ (ex = true → cap' = c) ∧
      ((a = none ∧ a' = none ∧ c = 0) ∨ (a = some voidA ∧ c = 0 ∧ ∃ x, a' = some x) ∨ ∃ b i lc, m b = some lc ∧ a = some ⟨b, i, none⟩ ∧ a' = some ⟨lc.cb, lc.off + i, none⟩) ∧
      (ex = false → (a = some voidA ∧ c = 0 ∧ ∃ x, a' = some x) ∨ ∃ b i lc q, m b = some lc ∧ a = some ⟨b, i, none⟩ ∧ a' = some ⟨lc.cb, lc.off + i, none⟩ ∧ eszOf code = q ∧ q < 65536 ∧ lc.off + i + cap' * q ≤ lc.sz) := by
    cases hr with
    | atom k => simp [atomic] at k
    | nilSlice => exact ⟨rfl, 0, true, rfl, by omega, fun _ => rfl, .inl ⟨rfl, rfl, rfl⟩, by simp⟩
    | sliceE h => exact ⟨rfl, _, true, capOf_odd _ _, Nat.le_refl _, fun _ => rfl, .inr (.inr ⟨_, _, _, h, rfl, rfl⟩), by simp⟩
    | sliceI h h1 h2 h3 h4 => exact ⟨rfl, _, false, capOf_even _ _ h3, h2, by simp, .inr (.inr ⟨_, _, _, h, rfl, rfl⟩), fun _ => .inr ⟨_, _, _, _, h, rfl, rfl, eszOf_code _ h3, h3, h4⟩⟩
    | void => exact ⟨rfl, 0, false, rfl, by omega, by simp, .inr (.inl ⟨rfl, rfl, _, rfl⟩), fun _ => .inl ⟨rfl, rfl, _, rfl⟩⟩
    | voidE => exact ⟨rfl, 0, true, rfl, by omega, fun _ => rfl, .inr (.inl ⟨rfl, rfl, _, rfl⟩), by simp⟩
  unfold sliceV at e
  simp only [hcap] at e
  refine ⟨?_, ?_, ?_, ?_, hlen, ?_⟩ <;> cases mx with
  | some mm =>
    cases hi with
    | none => simp at e
    | some h =>
      simp only at e
      obtain ⟨h1, h2, h3, h4⟩ := maxRel e ha
      (try simp only [Option.getD_some])
      first | exact h4 | omega | simp
  | none =>
    simp only at e
    cases hl : Nat.ble (hi.getD len) c && Nat.ble (lo.getD 0) (hi.getD len) with
    | false => simp [sliceTo, hl] at e
    | true =>
      have hl' := hl
      simp only [Bool.and_eq_true] at hl'
      obtain ⟨b1, b2⟩ := hl'
      have b1 := Nat.le_of_ble_eq_true b1
      have b2 := Nat.le_of_ble_eq_true b2
      (try simp only [Option.getD_none])
      first
        | omega
        | (simp; done)
        | (cases ex with
           | true =>
             have hc := hex rfl
             subst hc
             have hmax : sliceMax k a cap' (lo.getD 0) (hi.getD len) cap' = some v := by
               simp only [sliceTo, hl] at e
               rw [← e]
               unfold sliceMax
               have : (Nat.ble cap' cap' && Nat.ble (hi.getD len) cap' && Nat.ble (lo.getD 0) (hi.getD len)) = true := by
                 simp only [Bool.and_eq_true] at hl ⊢
                 exact ⟨⟨Nat.ble_eq_true_of_le (Nat.le_refl _), hl.1⟩, hl.2⟩
               rw [this]
             exact (maxRel hmax ha).2.2.2
           | false =>
             simp only [sliceTo, hl] at e
             rcases hI rfl with ⟨rfl, rfl, x, rfl⟩ | ⟨b, i, lc, q, hm, rfl, rfl, hq, hq1, hq2⟩
             · have l0 : lo.getD 0 = 0 := by omega
               have h0 : hi.getD len = 0 := by omega
               rw [l0, h0] at e ⊢
               simp only [Nat.blt] at e
               simp at e
               subst e
               split
               · exact .void
               · exact .void
             · cases hlt : Nat.blt (lo.getD 0) c with
               | true =>
                 simp only [hlt] at e
                 rw [Nat.blt_eq] at hlt
                 cases hbq : Nat.beq (eszOf code) k with
                 | false => simp [hbq] at e
                 | true =>
                   have hbq' := Nat.eq_of_beq_eq_true hbq
                   rw [hq] at hbq'
                   subst hbq'
                   simp only [hbq, mkSlice_eq, addO, addA, force_eq, Option.some.injEq] at e
                   subst e
                   rw [if_neg (by omega)]
                   simp only [Option.map_some, Addr.add_plain, Nat.add_assoc]
                   refine .sliceI hm (by omega) (by omega) hq1 ?_
                   have hs : lo.getD 0 * q + (cap' - lo.getD 0) * q = cap' * q := by
                     rw [← Nat.add_mul]; congr 1; omega
                   omega
               | false =>
                 simp only [hlt, Option.some.injEq] at e
                 subst e
                 have hge : c ≤ lo.getD 0 := by
                   rcases Nat.lt_or_ge (lo.getD 0) c with h1 | h1
                   · rw [← Nat.blt_eq] at h1; rw [h1] at hlt; cases hlt
                   · exact h1
                 rw [show hi.getD len - lo.getD 0 = 0 from by omega]
                 split
                 · exact .void
                 · simp only [Option.map_some, Addr.add_plain]; exact .void)
end
end Go.Shade

/- The evaluator's operations beside the model's. Part 4: slices, conversions, append, copy, maps, strings ranged over. -/
namespace Go.Shade
open Go.RowKit
set_option linter.unusedVariables false

section
variable {P : Program} {base : Nat} {m : Mp} {s : S} {w : World}

def BRel (o : Option Nat) (o' : Option Value) : Prop := (o = none ∧ o' = none) ∨ ∃ k n, o = some n ∧ o' = some (.int k (.ofNat n))

theorem VRel.slice_inv {a : Option Addr} {n c : Nat} {v' : Value} (h : VRel m (.slice a n c) v') : ∃ a' c', v' = .slice a' n c' := by
  cases h with
  | atom k => simp [atomic] at k
  | _ => exact ⟨_, _, rfl⟩

theorem run_sliceArr {n e : Nat} {x x' : Value} {lo hi mx : Option Nat} {lo' hi' mx' : Option Value} {v : Value} (h : sliceArr P n e x lo hi mx = some v) (hx : VRel m x x')
    (hlo : BRel lo lo') (hhi : BRel hi hi') (hmx : BRel mx mx') : ∃ a k v', x' = .pointer (some a) ∧ sizeOf' P e = some k ∧ VRel m v v' ∧
    ∀ {isS : Bool}, (do let (l, h, mm) ← Instr.sliceBounds isS n n lo' hi' mx'; let size ← sizeOf e; pure (.slice (some (if mm = l then a else a.add (l * size))) (h - l) (mm - l)) : Sem Value).run P w = .ok v' w := by
  unfold sliceArr at h
  split at h
  · rename_i a k hk
    obtain ⟨b, i, sp⟩ := a
    cases hx with
    | atom q => simp [atomic] at q
    | ptr hm =>
      obtain ⟨h1, h2, h3, h4, _, h5⟩ := rel_sliceV h (.sliceE (i := i) (n := n) (c := n) hm)
      refine ⟨_, k, _, rfl, hk, h5, ?_⟩
      intro isS
      rw [Sem.run_bind, run_bounds isS hlo hhi hmx h1 h2 h3 h4]
      simp only [Result.andThen_ok, Sem.run_bind, run_sizeOf hk, Sem.run_pure]
      split <;> simp
  · cases h

theorem sim_slice (h : HRel m s.H w base) (t : TypeId) {x x' : Value} {lo hi mx lo' hi' mx' : Option Value} (hx : VRel m x x')
    (hlo : ∀ r, natO lo = some r → BRel r lo') (hhi : ∀ r, natO hi = some r → BRel r hi') (hmx : ∀ r, natO mx = some r → BRel r mx') :
    Sim P base m s w (opSlice P t x lo hi mx) (Instr.sliceAt t x' lo' hi' mx') VR := by
  unfold opSlice
  cases h1 : natO lo with
  | none => exact Sim.fail
  | some l =>
    cases h2 : natO hi with
    | none => exact Sim.fail
    | some hh =>
      cases h3 : natO mx with
      | none => exact Sim.fail
      | some mm =>
        have hlo := hlo l h1
        have hhi := hhi hh h2
        have hmx := hmx mm h3
        refine Sim.optVal h fun v hv => ?_
        unfold sliceAny at hv
        split at hv
        · rename_i str hu
          cases hx.string_inv
          split at hv
          · unfold sliceStr at hv
            cases hb : Nat.ble (hh.getD str.size) str.size && Nat.ble (l.getD 0) (hh.getD str.size) with
            | false => simp [hb] at hv
            | true =>
              simp only [hb, Option.some.injEq] at hv
              subst hv
              simp only [Bool.and_eq_true] at hb
              have b1 := Nat.le_of_ble_eq_true hb.1
              have b2 := Nat.le_of_ble_eq_true hb.2
              have hmx' : mx' = none := by rcases hmx with ⟨_, e⟩ | ⟨_, _, e, _⟩ <;> first | exact e | cases e
              subst hmx'
              have := run_bounds (P := P) (w := w) false (len := str.size) (cap := str.size) (mx := none) (mx' := none) hlo hhi (.inl ⟨rfl, rfl⟩) (by simp) (by simpa using b1) b2 (by simp)
              refine ⟨_, ?_, .atom rfl⟩
              simp only [Instr.sliceAt, Sem.run_bind, run_under hu, Result.andThen_ok, Instr.slice, Option.isSome_none, Bool.false_eq_true, if_false, this, Sem.run_pure]
          · cases hv
        · rename_i e a n c hu
          obtain ⟨a', c', rfl⟩ := hx.slice_inv
          split at hv
          · rename_i k hk
            obtain ⟨g1, g2, g3, g4, _, g5⟩ := rel_sliceV hv hx
            refine ⟨_, ?_, g5⟩
            simp only [Instr.sliceAt, Sem.run_bind, run_under hu, Result.andThen_ok, Instr.slice, run_bounds true hlo hhi hmx g1 g2 g3 g4, run_sizeOf hk, Sem.run_pure]
          · cases hv
        · rename_i n e hu
          obtain ⟨a, k, v', rfl, hk, hr, hrun⟩ := run_sliceArr (w := w) hv hx hlo hhi hmx
          refine ⟨v', ?_, hr⟩
          have := hrun (isS := false)
          simp only [Instr.sliceAt, Sem.run_bind, run_under hu, Result.andThen_ok, Instr.sureAddr, Sem.run_pure] at this ⊢
          exact this
        · rename_i arr hu
          split at hv
          · rename_i n e hua
            obtain ⟨a, k, v', rfl, hk, hr, hrun⟩ := run_sliceArr (w := w) hv hx hlo hhi hmx
            refine ⟨v', ?_, hr⟩
            have := hrun (isS := false)
            simp only [Instr.sliceAt, Sem.run_bind, run_under hu, run_under hua, Result.andThen_ok, Instr.slice, asAddr, Sem.run_pure] at this ⊢
            exact this
          · cases hv
        · cases hv

theorem Below.drew' {base : Nat} {w w' : World} (h : Below base w.drew w') : Below base w w' := ⟨h.os, h.tape, h.output, h.size, h.block⟩

/-- A block with the same cells, marked otherwise. -/
theorem HRel.marked {H : Tr AObj} (h : HRel m H w base) {g : Nat} {c : Array Value} {e : TypeId} {fz fz' : Nat × Nat} (hg : w.heap[g]? = some (.cells c e fz)) (hN : NoFz c.size fz → NoFz c.size fz') :
    HRel m H (putObj w g (.cells c e fz')) base := by
  have hlt := (Array.getElem?_eq_some_iff.1 hg).1
  refine ⟨by simpa [putObj] using h.bs, ?_, ?_, ?_, h.sep, h.ends, h.olds, h.ro⟩
  · intro b cs rw old esz hb
    obtain ⟨l, c1, e1, fz1, h1, h2, h3, h4, h5, h6, h7⟩ := h.cells _ _ _ _ _ hb
    by_cases hl : l.cb = g
    · rw [hl, hg] at h3
      simp only [Option.some.injEq, Obj.cells.injEq] at h3
      obtain ⟨rfl, rfl, rfl⟩ := h3
      exact ⟨l, c, e, fz', h1, h2, by rw [hl]; exact putObj_same _ _ _ hlt, h4, h5, h6, fun hr => ⟨(h7 hr).1, hN (h7 hr).2⟩⟩
    · exact ⟨l, c1, e1, fz1, h1, h2, by rw [putObj_other _ _ _ _ hl]; exact h3, h4, h5, h6, h7⟩
  · intro b s p hb
    obtain ⟨l, h1, h2, h3, h4⟩ := h.iter _ _ _ hb
    have hl : l.cb ≠ g := fun e => by rw [e, hg] at h4; cases h4
    exact ⟨l, h1, h2, h3, by rw [putObj_other _ _ _ _ hl]; exact h4⟩
  · intro b es hb
    obtain ⟨l, ces, clock, h1, h2, h3, h4⟩ := h.map _ _ hb
    have hl : l.cb ≠ g := fun e => by rw [e, hg] at h3; cases h3
    exact ⟨l, ces, clock, h1, h2, by rw [putObj_other _ _ _ _ hl]; exact h3, h4⟩

/-- Freezing behind the cells turns nothing that counts. -/
theorem freeze_put {g sz : Nat} {c : Array Value} {e : TypeId} {fz : Nat × Nat} (hg : w.heap[g]? = some (.cells c e fz)) (hs : c.size = sz) :
    ∃ fz', w.freeze ⟨g, sz, none⟩ 1 = putObj w g (.cells c e fz') ∧ (NoFz c.size fz → NoFz c.size fz') := by
  obtain ⟨hlt, hge⟩ := Array.getElem?_eq_some_iff.1 hg
  obtain ⟨lo, hi⟩ := fz
  refine ⟨if lo == hi then (sz, sz + 1) else (min lo sz, max hi (sz + 1)), ?_, ?_⟩
  · unfold World.freeze putObj
    rw [if_neg (by omega)]
    congr 1
    apply Array.ext
    · simp
    · intro j hj hj'
      rw [Array.getElem_modify, Array.getElem_setIfInBounds]
      split
      · rename_i e1; subst e1; rw [hge]
      · rfl
  · rintro (h | h)
    · cases h; exact .inr (by simp; omega)
    · simp only at h
      right
      split <;> simp <;> omega

theorem sim_ownRow (h : HRel m s.H w base) {b : Nat} {l : Lc} (hl : m b = some l) (i : Nat) : Sim P base m s w (ownRow b) (markStringish ⟨l.cb, i, none⟩) (fun _ _ _ => True) := by
  intro r s' e hf
  obtain ⟨n, H, lim, log⟩ := s
  obtain ⟨x, hx, hh⟩ := touch_some e
  obtain ⟨cs, old, esz, rfl, hs⟩ : ∃ cs old esz, x = .cells cs true old esz ∧ s' = ⟨n, H, lim, note b lim log false⟩ := by
    rcases hh with ⟨hh, hs⟩ | ⟨y, hh, hs⟩
    · cases x with
      | cells cs rw old esz => cases rw <;> simp at hh; exact ⟨_, _, _, rfl, hs⟩
      | _ => simp at hh
    · cases x with
      | cells cs rw old esz => cases rw <;> simp at hh
      | _ => simp at hh
  subst hs
  obtain ⟨l', c, e1, fz, h1, h2, h3, h4, h5, h6, h7⟩ := h.cells _ _ _ _ _ hx
  rw [hl] at h1; cases h1
  obtain ⟨fz', g1, g2⟩ := freeze_put h3 rfl
  refine ⟨m, (), _, ?_, ⟨Ext.refl _ _ _, h.marked h3 g2, putObj_below _ _ _ _ (h7 rfl).1⟩, trivial⟩
  rw [← g1]
  simp [markStringish, World.shape?, h3]

/-- Cells of a slice or of a string. -/
theorem rd_rdSlice (h : HRel m s.H w base) (k : Nat) {x x' : Value} (n : Nat) (hx : VRel m x x') {r : List Value} {s' : S} (e : rdSlice k x n s = some (r, s')) :
    ∃ log' arr, s' = ⟨s.n, s.H, s.lim, log'⟩ ∧ (∀ w1 : World, w1.heap = w.heap → (Builtin.firstCells k n x').run P w1 = .ok arr w1) ∧ VRelL m r arr.toList ∧ ((∃ a b c, x = .slice a b c) → r.length = n * k) ∧ (∀ str, x = .string str → r.length = n ∧ n ≤ str.size) := by
  have hempty : ∀ y : Value, (∃ a c q, y = .slice a c q) → ∃ arr, (∀ w1 : World, (Builtin.firstCells k 0 y).run P w1 = .ok arr w1) ∧ VRelL m [] arr.toList := by
    rintro y ⟨a, c, q, rfl⟩
    refine ⟨#[], fun w1 => ?_, .nil⟩
    cases a <;> simp [Builtin.firstCells, loadCells, loadCellsFrom]
  unfold rdSlice at e
  split at e
  · rename_i b i a1 a2
    cases hx with
    | atom q => simp [atomic] at q
    | sliceE hm =>
      obtain ⟨log', arr, h1, h2, h3, h4, _⟩ := rd_rdRow (P := P) h hm e
      exact ⟨log', arr, h1, h2, h3, fun _ => h4, by simp⟩
    | sliceI hm _ _ _ _ =>
      obtain ⟨log', arr, h1, h2, h3, h4, _⟩ := rd_rdRow (P := P) h hm e
      exact ⟨log', arr, h1, h2, h3, fun _ => h4, by simp⟩
  · rename_i a1 a2 a3 h1
    obtain ⟨a', c', rfl⟩ := hx.slice_inv
    cases hb : Nat.beq n 0 with
    | false => rw [hb] at e; exact (M.fail_some e).elim
    | true =>
      rw [hb] at e
      obtain ⟨rfl, rfl⟩ := M.ret_some e
      have := Nat.eq_of_beq_eq_true hb
      subst this
      obtain ⟨arr, g1, g2⟩ := hempty (.slice a' a2 c') ⟨_, _, _, rfl⟩
      exact ⟨s'.log, arr, rfl, fun w1 _ => g1 w1, g2, by simp, by simp⟩
  · rename_i str
    cases hx.string_inv
    cases ht : takeO n str.data.toList with
    | none => rw [ht] at e; exact (M.fail_some e).elim
    | some l =>
      rw [ht] at e
      obtain ⟨rfl, rfl⟩ := M.ret_some e
      obtain ⟨rfl, hle⟩ := takeO_eq _ _ _ ht
      have hle : n ≤ str.size := by simpa using hle
      refine ⟨s'.log, (str.extract 0 n).data.map fun b => .int .u8 b.toNat, rfl, fun w1 _ => rfl, ?_, by simp, ?_⟩
      · have he : (str.extract 0 n).data.toList = str.data.toList.take n := by
          simp [ByteArray.extract, ByteArray.copySlice]
        rw [Array.toList_map, he]
        exact VRelL.map _ _ (fun b => .atom rfl) _
      · intro str' e1
        cases e1
        refine ⟨?_, hle⟩
        simp [cellsOfBytes]; omega
  · exact (M.fail_some e).elim

/-- A row that an append or a conversion made. -/
theorem rel_grown (h : HRel m s.H w base) {cs : List Value} {len k : Nat} {old : List Nat} {v : Value} {s' : S} (e : grown cs len k old s = some (v, s')) (hf : Fresh m s.n s'.n)
    {w1 : World} (hw1 : w1.heap = w.heap) (hb1 : Below base w w1) {c : Array Value} {cap : Nat} (et : TypeId) (hlen : cs.length ≤ c.size) (hrow : RowRel m cs c 0) (hcap : len ≤ cap) (hroom : cap * k ≤ c.size)
    (hro : ∀ a ∈ old, (∃ k, m a = some k) ∧ ∀ x, s.H.get a = some x → x = .dead ∨ ∃ cs' old' esz', x = .cells cs' false old' esz') :
    ∃ m', Step base m m' s.n s'.n s'.H w { w1 with heap := w1.heap.push (.cells c et) } ∧ VRel m' v (.slice (some ⟨w.heap.size, 0, none⟩) len cap) := by
  obtain ⟨n, H, lim, log⟩ := s
  unfold grown at e
  cases hk : Nat.blt k 65536 with
  | false => rw [hk] at e; exact (M.fail_some e).elim
  | true =>
    rw [hk] at e
    rw [Nat.blt_eq] at hk
    obtain ⟨b, s1, h1, h2⟩ := M.bnd_some e
    obtain ⟨rfl, rfl⟩ := M.ret_some h2
    obtain ⟨_, rfl, rfl⟩ := newRow_some h1
    have hn : m b = none := hf b (Nat.le_refl _) (Nat.lt_succ_self _)
    have hr1 : HRel m H w1 base := h.heap hw1
    have := hr1.newRow1 hn (e := et) (esz := k) (old := old) hlen hrow hro
    rw [hw1] at this ⊢
    refine ⟨_, ⟨Ext.upd _ _ _, by simpa [hw1] using this, hb1.trans (by have := Below.push (base := base) (w := w1) (by rw [hw1]; exact h.bs) (.cells c et); simpa [hw1] using this)⟩, ?_⟩
    rw [mkSlice_eq]
    have := VRel.sliceI (m := upd m b ⟨w.heap.size, 0, c.size, k⟩) (b := b) (i := 0) (n := len) (c := len) (c' := cap) (k := k) (upd_eq _ _ _) (Nat.le_refl _) hcap hk (by simpa using hroom)
    simpa using this

theorem run_appendCap (need old : Nat) (e : TypeId) : ∃ cap w1, (choose (.appendCap need old e)).run P w = .ok cap w1 ∧ need ≤ cap ∧ w1.heap = w.heap ∧ Below base w w1 := by
  refine ⟨_, { w with drawn := w.drawn + 1 }, by rw [run_choose]; rfl, ?_, rfl, ⟨rfl, rfl, rfl, Nat.le_refl _, fun _ _ => rfl⟩⟩
  simp [Question.cut]

theorem rowRel_append {cs : List Value} {c : Array Value} (r : Array Value) (h : VRelL m cs c.toList) : RowRel m cs (c ++ r) 0 := by
  intro i v hi
  obtain ⟨v', a1, a2⟩ := h.get hi
  refine ⟨v', ?_, a2⟩
  have hlt := (List.getElem?_eq_some_iff.1 a1).1
  rw [Nat.zero_add, Array.getElem?_append_left (by simpa using hlt)]
  simpa using a1

theorem sim_strBytes (h : HRel m s.H w base) (et : TypeId) (str : ByteArray) : Sim P base m s w (grown (cellsOfBytes str.data.toList) str.size 1 []) (Conv.stringToBytes et str) VRel := by
  intro v s' e hf
  obtain ⟨cap, w1, g1, g2, g3, g4⟩ := run_appendCap (P := P) (base := base) (w := w) str.size 0 et
  have hrel : VRelL m (cellsOfBytes str.data.toList) (str.data.map fun b => Value.int .u8 b.toNat).toList := by
    rw [Array.toList_map]; exact VRelL.map _ _ (fun b => .atom rfl) _
  obtain ⟨m', st, hv⟩ := rel_grown h e hf g3 g4 (c := (str.data.map fun b => Value.int .u8 b.toNat) ++ Array.replicate (cap - str.size) (.int .u8 0)) (cap := cap) et
    (by simp [cellsOfBytes]) (rowRel_append _ hrel) g2 (by simp; have : str.data.size = str.size := rfl; omega) (by simp)
  have hg : ({ w1 with heap := w1.heap.push (.cells ((str.data.map fun b => Value.int .u8 b.toNat) ++ Array.replicate (cap - str.size) (.int .u8 0)) et) } : World).heap[w.heap.size]? = some (.cells ((str.data.map fun b => Value.int .u8 b.toNat) ++ Array.replicate (cap - str.size) (.int .u8 0)) et (0, 0)) := by
    simp [g3]
  obtain ⟨fz', k1, k2⟩ := freeze_put hg rfl
  refine ⟨m', _, putObj _ w.heap.size (.cells _ et fz'), ?_, ⟨st.ext, st.rel.marked hg k2, st.below.trans (putObj_below _ _ _ _ h.bs)⟩, hv⟩
  rw [← k1]
  simp only [Conv.stringToBytes, Sem.run_bind, g1, Result.andThen_ok, Go.newRow, run_newObj, Sem.run_pure, g3, markStringish, run_shape, World.shape?]
  rw [g3] at hg
  simp only [hg]
  try simp [run_freeze]

theorem sim_strRunes (h : HRel m s.H w base) (et : TypeId) (str : ByteArray) : Sim P base m s w (grown (Conv.runesFrom str str.size 0 #[]).toList (Conv.runesFrom str str.size 0 #[]).toList.length 1 []) (Conv.stringToRunes et str) VRel := by
  intro v s' e hf
  generalize hq : Conv.runesFrom str str.size 0 #[] = q at e
  obtain ⟨cap, w1, g1, g2, g3, g4⟩ := run_appendCap (P := P) (base := base) (w := w) q.size 0 et
  have hat : ∀ v ∈ q.toList, atomic v = true := by
    have : ∀ (bound i : Nat) (acc : Array Value), (∀ v ∈ acc.toList, atomic v = true) → ∀ v ∈ (Conv.runesFrom str bound i acc).toList, atomic v = true := by
      intro bound
      induction bound with
      | zero => intro i acc ha; exact ha
      | succ n ih =>
        intro i acc ha
        unfold Conv.runesFrom
        split
        · refine ih _ _ ?_
          intro v hv
          rw [Array.toList_push] at hv
          rcases List.mem_append.1 hv with h1 | h1
          · exact ha v h1
          · simp at h1; subst h1; rfl
        · exact ha
    rw [← hq]; exact this _ _ _ (by simp)
  obtain ⟨m', st, hv⟩ := rel_grown h e hf g3 g4 (c := q ++ Array.replicate (cap - q.size) (.int .i32 0)) (cap := cap) et
    (by simp) (rowRel_append _ (VRelL.atoms hat)) (by simpa using g2) (by simp; omega) (by simp)
  refine ⟨m', _, _, ?_, st, by simpa using hv⟩
  simp only [Conv.stringToRunes, hq, Sem.run_bind, g1, Result.andThen_ok, Go.newRow, run_newObj, Sem.run_pure, g3]
  try simp

theorem bytesOf_ints : ∀ {l l' : List Value} {bs : List UInt8}, bytesOfCells l = some bs → VRelL m l l' →
    ∃ ns : List Int, l' = ns.map (Value.int .u8) ∧ ∀ acc : ByteArray, ns.foldl (fun r n => r.push (UInt8.ofNat n.toNat)) acc = ⟨acc.data ++ bs.toArray⟩
  | [], l', bs, h, hr => by
    cases hr
    simp only [bytesOfCells, Option.some.injEq] at h
    subst h
    exact ⟨[], rfl, fun acc => by simp⟩
  | v :: l, l', bs, h, hr => by
    cases hr with
    | cons hv hl =>
      unfold bytesOfCells at h
      split at h
      · rename_i e1; cases e1
      · rename_i n l2 e1
        cases e1
        cases hv.int_inv
        cases hb : bytesOfCells l with
        | none => simp [hb] at h
        | some bs' =>
          simp only [hb, Option.some.injEq] at h
          subst h
          obtain ⟨ns, rfl, hn⟩ := bytesOf_ints hb hl
          refine ⟨n :: ns, rfl, fun acc => ?_⟩
          rw [List.foldl_cons, hn]
          simp [ByteArray.push]
      · cases h
theorem runesOf_ints : ∀ {l l' : List Value} {bs : ByteArray}, runesOfCells l = some bs → VRelL m l l' →
    ∃ ns : List Int, l' = ns.map (Value.int .i32) ∧ ∀ acc : ByteArray, ns.foldl (fun r n => r ++ Utf8.encode n) acc = acc ++ bs
  | [], l', bs, h, hr => by
    cases hr
    simp only [runesOfCells, Option.some.injEq] at h
    subst h
    exact ⟨[], rfl, fun acc => by simp⟩
  | v :: l, l', bs, h, hr => by
    cases hr with
    | cons hv hl =>
      unfold runesOfCells at h
      split at h
      · rename_i e1; cases e1
      · rename_i n l2 e1
        cases e1
        cases hv.int_inv
        cases hb : runesOfCells l with
        | none => simp [hb] at h
        | some bs' =>
          simp only [hb, Option.some.injEq] at h
          subst h
          obtain ⟨ns, rfl, hn⟩ := runesOf_ints hb hl
          refine ⟨n :: ns, rfl, fun acc => ?_⟩
          rw [List.foldl_cons, hn, ByteArray.append_assoc]
      · cases h
theorem run_forIn_runes (f : Value → ByteArray → Sem (ForInStep ByteArray)) (hf : ∀ (n : Int) (r : ByteArray), (f (.int .i32 n) r).run P w = .ok (.yield (r ++ Utf8.encode n)) w) :
    ∀ (ns : List Int) (s : ByteArray), (forIn (ns.map (Value.int .i32)) s f).run P w = .ok (ns.foldl (fun r n => r ++ Utf8.encode n) s) w := by
  intro ns
  induction ns with
  | nil => intro s; simp [Sem.run_pure]
  | cons n ns ih =>
    intro s
    simp only [List.map_cons, List.forIn_cons, Sem.run_bind, hf, Result.andThen, List.foldl_cons]
    exact ih _

theorem run_cellsString {e : TypeId} {l : List Value} {arr : Array Value} {v : Value} (h : convCells P e l = some v) (hr : VRelL m l arr.toList) {a' : Option Addr} {n c : Nat} (hl : (Builtin.firstCells 1 n (.slice a' n c)).run P w = .ok arr w) :
    (P.underlying e = some (.int .u8) ∧ (Conv.bytesToString (.slice a' n c)).run P w = .ok v w) ∨ (P.underlying e = some (.int .i32) ∧ (Conv.runesToString (.slice a' n c)).run P w = .ok v w) := by
  unfold convCells at h
  split at h
  · rename_i hu
    left
    refine ⟨hu, ?_⟩
    cases hb : bytesOfCells l with
    | none => simp [hb] at h
    | some bs =>
      simp only [hb, Option.some.injEq] at h
      subst h
      obtain ⟨ns, e1, e2⟩ := bytesOf_ints hb hr
      have harr : arr = (ns.map (Value.int .u8)).toArray := by rw [← e1]
      subst harr
      cases a' with
      | none =>
        simp only [Builtin.firstCells, Sem.run_pure, Result.ok.injEq, and_true] at hl
        have hns : ns = [] := by simpa using congrArg Array.toList hl.symm
        subst hns
        have := e2 ByteArray.empty
        simp only [List.foldl_nil] at this
        simp only [Conv.bytesToString, Sem.run_pure]
        congr 2
        try (rw [this]; try simp)
      | some a =>
        simp only [Builtin.firstCells, Nat.mul_one] at hl
        rw [run_bytesToString w a n c ns hl, e2]
        try simp
  · rename_i hu
    right
    refine ⟨hu, ?_⟩
    cases hb : runesOfCells l with
    | none => simp [hb] at h
    | some bs =>
      simp only [hb, Option.some.injEq] at h
      subst h
      obtain ⟨ns, e1, e2⟩ := runesOf_ints hb hr
      have harr : arr = (ns.map (Value.int .i32)).toArray := by rw [← e1]
      subst harr
      cases a' with
      | none =>
        simp only [Builtin.firstCells, Sem.run_pure, Result.ok.injEq, and_true] at hl
        have hns : ns = [] := by simpa using congrArg Array.toList hl.symm
        subst hns
        have := e2 ByteArray.empty
        simp only [List.foldl_nil] at this
        simp only [Conv.runesToString, Sem.run_pure]
        congr 2
        try (rw [this]; try simp)
      | some a =>
        simp only [Builtin.firstCells, Nat.mul_one] at hl
        unfold Conv.runesToString
        simp only [Sem.run_bind, hl, Result.andThen, List.forIn_toArray]
        rw [run_forIn_runes _ (by intro n r; simp [Sem.run_pure]), e2]
        try simp [Sem.run_pure]
  · cases h

theorem sim_conv (h : HRel m s.H w base) (src dst : TypeId) {x x' : Value} (hx : VRel m x x') : Sim P base m s w (convV P src dst x) (convert src dst x') VRel := by
  unfold convV
  split
  · rename_i k n
    cases hx.int_inv
    split
    · rename_i k2 hs
      refine Sim.opt h fun v hv => ?_
      unfold convInt at hv
      split at hv
      · rename_i k3 hd
        simp only [mkInt_eq, Option.some.injEq] at hv
        subst hv
        exact ⟨_, by simp [convert, run_under hs, run_under hd, Conv.intToInt], .atom rfl⟩
      · rename_i hd
        simp only [Option.some.injEq] at hv
        subst hv
        exact ⟨_, by simp [convert, run_under hs, run_under hd, Conv.intToString], .atom rfl⟩
      · cases hv
    · exact Sim.fail
  · rename_i str
    cases hx.string_inv
    split
    · rename_i hs
      unfold convStr
      split
      · rename_i hd
        exact Sim.run (y := pure (.string str)) (Sim.ret h (.atom rfl)) (by simp [convert, run_under hs, run_under hd])
      · rename_i e hd
        split
        · rename_i he
          exact Sim.run (sim_strBytes h e str) (by simp [convert, run_under hs, run_under hd, run_under he])
        · rename_i he
          exact Sim.run (sim_strRunes h e str) (by simp [convert, run_under hs, run_under hd, run_under he])
        · exact Sim.fail
      · exact Sim.fail
    · exact Sim.fail
  · rename_i a n c
    obtain ⟨a', c', rfl⟩ := hx.slice_inv
    unfold convSlice
    split
    · rename_i e hs hd
      intro v s' ee hf
      obtain ⟨l, s1, h1, h2⟩ := M.bnd_some ee
      obtain ⟨hv, rfl⟩ := M.opt_some h2
      obtain ⟨log', arr, rfl, g1, g2, _⟩ := rd_rdSlice (P := P) h 1 n hx h1
      have hat : ∃ str, v = .string str := by
        unfold convCells at hv
        split at hv <;> (try cases hv) <;> split at hv <;> (try cases hv) <;> exact ⟨_, rfl⟩
      obtain ⟨str, rfl⟩ := hat
      refine ⟨m, .string str, w, ?_, ⟨Ext.refl _ _ _, h, Below.refl _ _⟩, .atom rfl⟩
      rcases run_cellsString hv g2 (g1 w rfl) with ⟨he, hr⟩ | ⟨he, hr⟩
      · simp only [convert, Sem.run_bind, run_under hs, run_under hd, run_under he, Result.andThen_ok]; exact hr
      · simp only [convert, Sem.run_bind, run_under hs, run_under hd, run_under he, Result.andThen_ok]; exact hr
    · rename_i e1 e hs hd
      unfold convRow
      split
      · rename_i b i hb he
        have hb := Nat.eq_of_beq_eq_true hb
        subst hb
        have hee : e1 = e := by rw [hs] at hd; cases hd; rfl
        subst hee
        have key : ∀ l, m b = some l → ∀ n' c', VRel m (.slice (some ⟨b, i, none⟩) n c) (.slice (some ⟨l.cb, l.off + i, none⟩) n' c') →
            Sim P base m s w (M.bnd (ownRow b) fun _ => M.ret (.slice (some ⟨b, i, none⟩) n c)) (convert src src (.slice (some ⟨l.cb, l.off + i, none⟩) n' c')) VRel := by
          intro l hm n' c' hr
          have hmm : ∀ {m' : Mp} {k k' : Nat}, Ext m m' k k' → Fresh m k k' → VRel m' (.slice (some ⟨b, i, none⟩) n c) (.slice (some ⟨l.cb, l.off + i, none⟩) n' c') := fun e f => hr.mono (e.le f)
          intro v s' ee hf
          obtain ⟨u, s1, h1, h2⟩ := M.bnd_some ee
          obtain ⟨rfl, rfl⟩ := M.ret_some h2
          obtain ⟨m', _, w', r1, st, _⟩ := sim_ownRow (P := P) h hm (l.off + i) u s' h1 hf
          refine ⟨m', _, w', ?_, st, hmm st.ext hf⟩
          simp only [convert, Sem.run_bind, run_under hs, Result.andThen_ok, beq_self_eq_true, run_under he, r1, Sem.run_pure]
        cases hx with
        | atom q => simp [atomic] at q
        | sliceE hm => exact key _ hm _ _ (.sliceE hm)
        | sliceI hm a1 a2 a3 a4 => exact key _ hm _ _ (.sliceI hm a1 a2 a3 a4)
      · exact Sim.fail
    · exact Sim.fail
  · exact Sim.fail
end
end Go.Shade

/- The evaluator's operations beside the model's. Part 5: append. -/
namespace Go.Shade
open Go.RowKit
set_option linter.unusedVariables false

section
variable {P : Program} {base : Nat} {m : Mp} {s : S} {w : World}

/-- append, where the capacity serves. -/
theorem run_append_in {ats : Array TypeId} {ty t u e : TypeId} {i : TypeInfo} (h0 : ats[0]? = some t) (h1 : ats[1]? = some u) (ht : P.underlying t = some (.slice e)) (hi : P.info? e = some i)
    (hu : (∃ q, P.underlying u = some (.slice q)) ∨ P.underlying u = some .string) {a : Addr} {sLen sCap n : Nat} {x' : Value} (hn : (Builtin.lenOf x').run P w = .ok n w) (hle : sLen + n ≤ sCap)
    {new : Array Value} (hnew : (Builtin.firstCells i.size n x').run P w = .ok new w) {w' : World} (hst : (storeCells (a.add (sLen * i.size)) new.toList).run P w = .ok () w') :
    (Builtin.append_ ats ty #[.slice (some a) sLen sCap, x']).run P w = .ok (.slice (some a) (sLen + n) sCap) w' := by
  rcases hu with ⟨q, hu⟩ | hu <;> simp [Builtin.append_, h0, h1, run_under ht, run_under hu, sizeOf, typeInfo, hi, hn, hle, hnew, hst]
theorem run_append_nil0 {ats : Array TypeId} {ty t u e : TypeId} {i : TypeInfo} (h0 : ats[0]? = some t) (h1 : ats[1]? = some u) (ht : P.underlying t = some (.slice e)) (hi : P.info? e = some i)
    (hu : (∃ q, P.underlying u = some (.slice q)) ∨ P.underlying u = some .string) {sLen sCap n : Nat} {x' : Value} (hn : (Builtin.lenOf x').run P w = .ok n w) (hle : sLen + n ≤ sCap)
    {new : Array Value} (hnew : (Builtin.firstCells i.size n x').run P w = .ok new w) :
    (Builtin.append_ ats ty #[.slice none sLen sCap, x']).run P w = .ok (.slice none (sLen + n) sCap) w := by
  rcases hu with ⟨q, hu⟩ | hu <;> simp [Builtin.append_, h0, h1, run_under ht, run_under hu, sizeOf, typeInfo, hi, hn, hle, hnew]

/-- append, where it does not. -/
theorem run_append_out {ats : Array TypeId} {ty t u e : TypeId} {i : TypeInfo} {z : Value} (h0 : ats[0]? = some t) (h1 : ats[1]? = some u) (ht : P.underlying t = some (.slice e)) (hi : P.info? e = some i)
    (hu : (∃ q, P.underlying u = some (.slice q)) ∨ P.underlying u = some .string) (hz : zero' P e = some z) {b' : Option Addr} {sLen sCap n : Nat} {x' : Value} (hn : ∀ w, (Builtin.lenOf x').run P w = .ok n w) (hle : ¬ sLen + n ≤ sCap)
    (hb : (sLen + n) * i.bytes ≤ 2 ^ 40) (hb1 : 1 ≤ i.bytes)
    {new old : Array Value} (hnew : ∀ w1 : World, w1.heap = w.heap → (Builtin.firstCells i.size n x').run P w1 = .ok new w1) (hold : ∀ w1 : World, w1.heap = w.heap → (Builtin.firstCells i.size sLen (.slice b' sLen sCap)).run P w1 = .ok old w1) :
    ∃ cap w1, sLen + n ≤ cap ∧ w1.heap = w.heap ∧ Below base w w1 ∧
      (Builtin.append_ ats ty #[.slice b' sLen sCap, x']).run P w = .ok (.slice (some ⟨w1.heap.size, 0, none⟩) (sLen + n) cap) { w1 with heap := w1.heap.push (.cells (old ++ new ++ Builtin.zeroCells z.cells (cap - (sLen + n))) e) } := by
  refine ⟨grownCap w (sLen + n) sCap e, w.drew, by simp [grownCap, Question.cut], rfl, ⟨rfl, rfl, rfl, Nat.le_refl _, fun _ _ => rfl⟩, ?_⟩
  have hlt : sLen + n ≤ 2 ^ 40 := Nat.le_trans (Nat.le_mul_of_pos_right _ hb1) hb
  have hgr : ¬ (281474976710656 < Builtin.nextslicecap (sLen + n) sCap * i.bytes) := by
    have := growslice_fits (need := sLen + n) (old := sCap) (bytes := i.bytes) (by omega) (by omega)
    omega
  have h63' : ¬ (9223372036854775807 < ((sLen : Int) + (n : Int))) := by omega
  have hby : ¬ i.bytes = 0 := by omega
  have hzi : ∃ i', P.info? e = some i' ∧ i'.zero = some z := by
    unfold zero' at hz
    cases hq : P.types[e]? with
    | none => simp [hq] at hz
    | some i' =>
      simp only [hq] at hz
      obtain ⟨q1, q2⟩ := Array.getElem?_eq_some_iff.1 hq
      exact ⟨i', by simp [Tables.info?, q1, q2], hz⟩
  obtain ⟨i', hi', hz'⟩ := hzi
  rw [hi] at hi'
  cases hi'
  rcases hu with ⟨q, hu⟩ | hu <;>
    simp [Builtin.append_, h0, h1, run_under ht, run_under hu, sizeOf, typeInfo, zeroValue, hi, hz', hn, hle, h63', hgr, hby, hnew w.drew rfl, hold w.drew rfl, Go.newRow, Question.forced, grownCap] <;> rfl

end
end Go.Shade
