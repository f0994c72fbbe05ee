/- The abstract evaluator ("Shade"): a deterministic evaluator of the kit's code over an abstract heap. Definitions alone, part 1: the heap, the state, what is read and written. Typed so that the kernel runs it: small functions, each state taken apart by its parts. -/
import GoSem.Dispatch
import GoSem.Machine.Frame
namespace Go.Shade

/-- A finite map from numbers, as a binary tree: quick where the kernel runs it. -/
inductive Tr (α : Type) where
  | nil
  | node (l : Tr α) (v : Option α) (r : Tr α)

def Tr.getF {α : Type} : Nat → Tr α → Nat → Option α
  | 0, _, _ => none
  | _ + 1, .nil, _ => none
  | f + 1, .node l v r, k => match Nat.beq k 0 with
    | true => v
    | false => match Nat.beq (k % 2) 1 with
      | true => Tr.getF f l (k / 2)
      | false => Tr.getF f r (k / 2 - 1)

def Tr.setF {α : Type} : Nat → Tr α → Nat → α → Tr α
  | 0, t, _, _ => t
  | f + 1, .nil, k, x => match Nat.beq k 0 with
    | true => .node .nil (some x) .nil
    | false => match Nat.beq (k % 2) 1 with
      | true => .node (Tr.setF f .nil (k / 2) x) none .nil
      | false => .node .nil none (Tr.setF f .nil (k / 2 - 1) x)
  | f + 1, .node l v r, k, x => match Nat.beq k 0 with
    | true => .node l (some x) r
    | false => match Nat.beq (k % 2) 1 with
      | true => .node (Tr.setF f l (k / 2) x) v r
      | false => .node l v (Tr.setF f r (k / 2 - 1) x)

def Tr.get {α : Type} (t : Tr α) (k : Nat) : Option α := Tr.getF (k + 1) t k
def Tr.set {α : Type} (t : Tr α) (k : Nat) (x : α) : Tr α := Tr.setF (k + 1) t k x

/-- The element at a place, or none. -/
def nth {α : Type} : List α → Nat → Option α
  | [], _ => none
  | x :: _, 0 => some x
  | _ :: l, i + 1 => nth l i

/-- A list from a place on; none: it is shorter. -/
def dropO {α : Type} : Nat → List α → Option (List α)
  | 0, l => some l
  | _ + 1, [] => none
  | i + 1, _ :: l => dropO i l
/-- Its first elements; none: it has not so many. -/
def takeO {α : Type} : Nat → List α → Option (List α)
  | 0, _ => some []
  | _ + 1, [] => none
  | i + 1, x :: l => match takeO i l with
    | none => none
    | some r => some (x :: r)
/-- What is written over the beginning; none: there is not room. -/
def over {α : Type} : List α → List α → Option (List α)
  | [], l => some l
  | _ :: _, [] => none
  | v :: vs, _ :: l => match over vs l with
    | none => none
    | some r => some (v :: r)
/-- What is written from a place on. -/
def putAt {α : Type} : Nat → List α → List α → Option (List α)
  | 0, vs, l => over vs l
  | _ + 1, _, [] => none
  | i + 1, vs, x :: l => match putAt i vs l with
    | none => none
    | some r => some (x :: r)

/-- A number, brought to its own form before what follows (for the kernel's sake). -/
def force {α : Type} (n : Nat) (k : Nat → α) : α := match n with | 0 => k 0 | m + 1 => k (m + 1)
def forceI {α : Type} (i : Int) (k : Int → α) : α := match i with
  | .ofNat m => force m fun m => k (.ofNat m)
  | .negSucc m => force m fun m => k (.negSucc m)

/-- An abstract object. Of cells: what they hold; whether they may be written; the older objects that may lie in the same memory; the size of an element that an append made it of. -/
inductive AObj where
  | cells (cs : List Value) (rw : Bool) (old : List Nat) (esz : Nat)
  | iter (s : ByteArray) (pos : Nat)
  | map (es : List (Value × Value))
  | dead

/-- An access to an older object. -/
structure Acc where
  wr : Bool
  b : Nat

structure S where
  n : Nat
  H : Tr AObj
  lim : Nat
  log : List Acc

abbrev M (α : Type) := S → Option (α × S)
def M.ret {α : Type} (a : α) : M α := fun s => some (a, s)
def M.bnd {α β : Type} (x : M α) (f : α → M β) : M β := fun s => match x s with
  | none => none
  | some (a, s') => f a s'
def M.fail {α : Type} : M α := fun _ => none
def M.opt {α : Type} (o : Option α) : M α := fun s => match o with
  | none => none
  | some a => some (a, s)

/-- The log with one access more, if the object is an older one. -/
def note (b lim : Nat) (log : List Acc) (wr : Bool) : List Acc :=
  match Nat.blt b lim with
  | true => ⟨wr, b⟩ :: log
  | false => log

def rowOf (cs : List Value) (lo cnt : Nat) : Option (List Value) := match dropO lo cs with
  | none => none
  | some l => takeO cnt l

/-- Look at an object, and put another one in its place, if there is one. -/
def touch {α : Type} (b : Nat) (f : AObj → Option (α × Option AObj)) : M α
  | ⟨n, H, lim, log⟩ => match Nat.blt b n with
    | true => match H.get b with
      | some x => match f x with
        | some (a, none) => some (a, ⟨n, H, lim, note b lim log false⟩)
        | some (a, some y) => some (a, ⟨n, H.set b y, lim, note b lim log true⟩)
        | none => none
      | none => none
    | false => none

/-- What is only looked at. -/
def seenO {α : Type} (o : Option α) : Option (α × Option AObj) := match o with
  | some a => some (a, none)
  | none => none

/-- Read cnt cells. -/
def rdRow (b lo cnt : Nat) : M (List Value) := touch b fun x => match x with
  | .cells cs _ _ _ => seenO (rowOf cs lo cnt)
  | _ => none

def rdCell (b i : Nat) : M Value := touch b fun x => match x with
  | .cells cs _ _ _ => seenO (nth cs i)
  | _ => none

def oneCell : Value → Bool
  | .agg _ | .tuple _ => false
  | _ => true

/-- Older objects that may lie in the same memory end. -/
def kill : List Nat → M Unit
  | [] => M.ret ()
  | o :: l => M.bnd (touch o fun _ => some ((), some .dead)) fun _ => kill l

def putRow (lo : Nat) (vs cs : List Value) (esz : Nat) : Option (List Nat × Option AObj) := match putAt lo vs cs, vs.all oneCell with
  | some cs', true => some ([], some (.cells cs' true [] esz))
  | _, _ => none

/-- Write cells of a row that nothing older shares; else tell what does. -/
def wrFirst (lo : Nat) (vs : List Value) : AObj → Option (List Nat × Option AObj)
  | .cells cs true [] esz => putRow lo vs cs esz
  | .cells _ true old _ => some (old, none)
  | _ => none
def wrThen (lo : Nat) (vs : List Value) : AObj → Option (List Nat × Option AObj)
  | .cells cs true _ esz => putRow lo vs cs esz
  | _ => none

/-- Write cells. -/
def wrRow (b lo : Nat) (vs : List Value) : M Unit := M.bnd (touch b (wrFirst lo vs)) fun old => match old with
  | [] => M.ret ()
  | o :: l => M.bnd (kill (o :: l)) fun _ => M.bnd (touch b (wrThen lo vs)) fun _ => M.ret ()

def newObj (o : AObj) : M Nat
  | ⟨n, H, lim, log⟩ => force n fun n => some (n, ⟨n + 1, H.set n o, lim, log⟩)

def ptr (b i : Nat) : Value := .pointer (some ⟨b, i, none⟩)

/-- A row of cells of one's own, of elements of the size esz. -/
def newRow (cs : List Value) (old : List Nat) (esz : Nat) : M Nat := match cs.all oneCell with
  | true => newObj (.cells cs true old esz)
  | false => M.fail

/-- The cells of a value. -/
def cellsOf : Value → List Value
  | .agg cs => cs.toList
  | v => [v]

def addrOf : Value → Option (Nat × Nat)
  | .pointer (some ⟨b, i, none⟩) => some (b, i)
  | _ => none

section
variable (P : Program)
def sizeOf' (t : TypeId) : Option Nat := (P.info? t).map (·.size)
def isAgg' (t : TypeId) : Option Bool := (P.underlying t).map fun | .struct _ | .array _ _ => true | _ => false
def zero' (t : TypeId) : Option Value := match P.types[t]? with
  | some i => i.zero
  | none => none

def loadV (t : TypeId) (b i : Nat) : M Value := match isAgg' P t with
  | some true => match sizeOf' P t with
    | some k => M.bnd (rdRow b i k) fun l => M.ret (.agg l.toArray)
    | none => M.fail
  | some false => rdCell b i
  | none => M.fail

def storeV (t : TypeId) (b i : Nat) (v : Value) : M Unit := match sizeOf' P t with
  | some k => match Nat.beq (cellsOf v).length k with
    | true => wrRow b i (cellsOf v)
    | false => M.fail
  | none => M.fail

def partV (t : TypeId) (cs : List Value) (off : Nat) : Option Value := match isAgg' P t with
  | some true => match sizeOf' P t with
    | some k => match rowOf cs off k with
      | some l => some (.agg l.toArray)
      | none => none
    | none => none
  | some false => nth cs off
  | none => none

def fillA (place : Nat → Option (Nat × Nat)) : List Value → List (Nat × Value) → Option (List Value)
  | cells, [] => some cells
  | cells, (i, v) :: rest => match place i with
    | none => none
    | some (off, size) => match Nat.beq (cellsOf v).length size with
      | true => match putAt off (cellsOf v) cells with
        | some cells' => fillA place cells' rest
        | none => none
      | false => none

def mkInt (k : IntKind) (n : Int) : Option Value := forceI n fun n => some (.int k n)

/-- Equality of two values at a type, where it asks no memory. -/
def eqV : Nat → TypeId → Value → Value → Option Bool
  | 0, _, _, _ => none
  | d + 1, t, x, y => match P.underlying t, x, y with
    | some .bool, .bool a, .bool b => some (a == b)
    | some (.int _), .int k a, .int k' b => if k = k' then some (a == b) else none
    | some .string, .string a, .string b => some (a == b)
    | some (.pointer _), .pointer none, .pointer b => some b.isNone
    | some (.pointer _), .pointer (some _), .pointer none => some false
    | some (.interface _), .nilIface, .nilIface => some true
    | some (.interface _), .nilIface, .iface _ _ => some false
    | some (.interface _), .iface _ _, .nilIface => some false
    | some (.struct fields), .agg xs, .agg ys => match P.stoodInHeld t with
      | true => none
      | false => eqFields (eqV d) fields.toList xs.toList ys.toList
    | some (.slice _), .slice none _ _, .slice b _ _ => some b.isNone
    | some (.slice _), .slice (some _) _ _, .slice none _ _ => some false
    | some (.map _ _), .map none, .map b => some b.isNone
    | some (.map _ _), .map (some _), .map none => some false
    | some (.func _ _ _), .nilFunc, .nilFunc => some true
    | some (.func _ _ _), .nilFunc, .func _ _ _ => some false
    | some (.func _ _ _), .func _ _ _, .nilFunc => some false
    | _, _, _ => none
where
  eqFields (eq : TypeId → Value → Value → Option Bool) : List Field → List Value → List Value → Option Bool
    | [], _, _ => some true
    | f :: fs, xs, ys => match decide (f.name ≠ "_") with
      | true => match partV P f.type xs f.offset, partV P f.type ys f.offset with
        | some x, some y => match eq f.type x y with
          | some true => eqFields eq fs xs ys
          | some false => some false
          | none => none
        | _, _ => none
      | false => eqFields eq fs xs ys
end
end Go.Shade
