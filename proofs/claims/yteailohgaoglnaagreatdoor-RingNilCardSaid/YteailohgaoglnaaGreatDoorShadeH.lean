/- The number of the next object never falls, in any piece of the evaluator. -/
import Derived.Test.YteailohgaoglnaaGreatDoorShadeG
namespace Go.Shade
set_option linter.unusedVariables false
def MonoCall (call : CallSem) : Prop := ∀ f args p, Mono (call f args p)
section
variable {α β : Type}
theorem Mono.ret (a : α) : Mono (M.ret a) := fun s b s' h => by rw [(M.ret_some h).2]; exact Nat.le_refl _
theorem Mono.fail : Mono (M.fail : M α) := fun s b s' h => (M.fail_some h).elim
theorem Mono.opt (o : Option α) : Mono (M.opt o) := fun s b s' h => by rw [(M.opt_some h).2]; exact Nat.le_refl _
theorem Mono.bnd {x : M α} {f : α → M β} (hx : Mono x) (hf : ∀ a, Mono (f a)) : Mono (M.bnd x f) := fun s b s' h => by
  obtain ⟨a, s1, h1, h2⟩ := M.bnd_some h
  exact Nat.le_trans (hx _ _ _ h1) (hf _ _ _ _ h2)
theorem Mono.touch (b : Nat) (f : AObj → Option (α × Option AObj)) : Mono (touch b f) := by
  rintro ⟨n, H, lim, log⟩ a s' h
  obtain ⟨x, _, ⟨_, rfl⟩ | ⟨y, _, rfl⟩⟩ := touch_some h <;> exact Nat.le_refl _
theorem Mono.newObj (o : AObj) : Mono (newObj o) := by
  rintro ⟨n, H, lim, log⟩ a s' h
  simp only [Shade.newObj, force_eq, Option.some.injEq, Prod.mk.injEq] at h
  obtain ⟨_, rfl⟩ := h
  exact Nat.le_succ _
theorem Mono.getN : Mono getN := by
  rintro ⟨n, H, lim, log⟩ a s' h
  simp only [Shade.getN, Option.some.injEq, Prod.mk.injEq] at h
  obtain ⟨_, rfl⟩ := h
  exact Nat.le_refl _
theorem Mono.sub {x : M α} (hx : Mono x) : Mono (sub x) := by
  rintro ⟨n, H, lim, log⟩ a s' h
  obtain ⟨a, n1, H1, lim1, log1, h1, rfl, rfl⟩ := sub_some h
  have := hx _ _ _ h1; exact this
end
section
variable {α : Type}
theorem Mono.force {k : Nat → M α} (n : Nat) (h : ∀ n, Mono (k n)) : Mono (force n k) := by rw [force_eq]; exact h n
theorem Mono.kill : ∀ l, Mono (kill l)
  | [] => Mono.ret _
  | _ :: l => Mono.bnd (Mono.touch _ _) fun _ => Mono.kill l
end

theorem Mono.rdRow (b lo cnt : Nat) : Mono (rdRow b lo cnt) := Mono.touch _ _
theorem Mono.rdCell (b i : Nat) : Mono (rdCell b i) := Mono.touch _ _
theorem Mono.wrRow (b lo : Nat) (vs : List Value) : Mono (wrRow b lo vs) := by
  refine Mono.bnd (Mono.touch _ _) fun old => ?_
  cases old with
  | nil => exact Mono.ret _
  | cons o l => exact Mono.bnd (Mono.kill _) fun _ => Mono.bnd (Mono.touch _ _) fun _ => Mono.ret _
theorem Mono.newRow (cs : List Value) (old : List Nat) (esz : Nat) : Mono (newRow cs old esz) := by
  unfold Shade.newRow; split
  · exact Mono.newObj _
  · exact Mono.fail

section
variable (P : Program)
theorem Mono.loadV (t : TypeId) (b i : Nat) : Mono (loadV P t b i) := by
  unfold Shade.loadV
  repeat' split
  all_goals first | exact Mono.fail | exact Mono.rdCell _ _ | exact Mono.bnd (Mono.rdRow _ _ _) fun _ => Mono.ret _
theorem Mono.storeV (t : TypeId) (b i : Nat) (v : Value) : Mono (storeV P t b i v) := by
  unfold Shade.storeV
  repeat' split
  all_goals first | exact Mono.fail | exact Mono.wrRow _ _ _
theorem Mono.rdSlice (k : Nat) (x : Value) (n : Nat) : Mono (rdSlice k x n) := by
  unfold Shade.rdSlice
  repeat' split
  all_goals first | exact Mono.fail | exact Mono.rdRow _ _ _ | exact Mono.ret _
theorem Mono.grown (cs : List Value) (len k : Nat) (old : List Nat) : Mono (grown cs len k old) := by
  unfold Shade.grown; split <;> first | exact Mono.fail | exact Mono.bnd (Mono.newRow _ _ _) fun _ => Mono.ret _
theorem Mono.ownRow (b : Nat) : Mono (ownRow b) := Mono.touch _ _
theorem Mono.retire (k b upto : Nat) : Mono (retire k b upto) := Mono.touch _ _
theorem Mono.getMap (r : Nat) : Mono (getMap r) := Mono.touch _ _
theorem Mono.setMap (r : Nat) (es : List (Value × Value)) : Mono (setMap r es) := Mono.touch _ _
theorem Mono.convStr (dst : TypeId) (s : ByteArray) : Mono (convStr P dst s) := by
  unfold Shade.convStr
  repeat' split
  all_goals first | exact Mono.fail | exact Mono.ret _ | exact Mono.grown _ _ _ _
theorem Mono.convSlice (src dst : TypeId) (a : Option Addr) (n c : Nat) : Mono (convSlice P src dst a n c) := by
  unfold Shade.convSlice Shade.convRow
  repeat' split
  all_goals first | exact Mono.fail | exact Mono.bnd (Mono.rdSlice _ _ _) fun _ => Mono.opt _ | exact Mono.bnd (Mono.ownRow _) fun _ => Mono.ret _
theorem Mono.convV (src dst : TypeId) (x : Value) : Mono (convV P src dst x) := by
  unfold Shade.convV
  repeat' split
  all_goals first | exact Mono.fail | exact Mono.opt _ | exact Mono.convStr P _ _ | exact Mono.convSlice P _ _ _ _ _
theorem Mono.appIn (k : Nat) (a : Option Addr) (sLen n code : Nat) (new : List Value) : Mono (appIn k a sLen n code new) := by
  unfold Shade.appIn
  repeat' split
  all_goals first | exact Mono.fail | exact Mono.ret _ | exact Mono.bnd (Mono.wrRow _ _ _) fun _ => Mono.ret _
theorem Mono.appOut (k : Nat) (a : Option Addr) (sLen code n : Nat) (ex : Bool) (new old : List Value) : Mono (appOut k a sLen code n ex new old) := by
  unfold Shade.appOut
  repeat' split
  all_goals first | exact Mono.fail | exact Mono.grown _ _ _ _ | exact Mono.bnd (Mono.retire _ _ _) fun _ => Mono.grown _ _ _ _
theorem Mono.appRow (k bytes : Nat) (a : Option Addr) (sLen code n : Nat) (new : List Value) : Mono (appRow k bytes a sLen code n new) := by
  unfold Shade.appRow
  repeat' split
  all_goals first | exact Mono.fail | exact Mono.appIn _ _ _ _ _ _ | exact Mono.bnd (Mono.rdSlice _ _ _) fun _ => Mono.appOut _ _ _ _ _ _ _ _
theorem Mono.appendV (t : TypeId) (s x : Value) : Mono (appendV P t s x) := by
  unfold Shade.appendV
  repeat' split
  all_goals first | exact Mono.fail | exact Mono.bnd (Mono.rdSlice _ _ _) fun _ => Mono.appRow _ _ _ _ _ _ _
theorem Mono.copyRow (a : Option Addr) (n : Nat) (cs : List Value) : Mono (copyRow a n cs) := by
  unfold Shade.copyRow
  repeat' split
  all_goals first | exact Mono.fail | exact Mono.opt _ | exact Mono.bnd (Mono.wrRow _ _ _) fun _ => Mono.opt _
theorem Mono.copyV (t : TypeId) (d x : Value) : Mono (copyV P t d x) := by
  unfold Shade.copyV
  repeat' split
  all_goals first | exact Mono.fail | exact Mono.bnd (Mono.rdSlice _ _ _) fun _ => Mono.copyRow _ _ _
theorem Mono.builtinV (b : Builtin) (ts : List TypeId) (args : List Value) : Mono (builtinV P b ts args) := by
  unfold Shade.builtinV Shade.appB Shade.lenB Shade.clearB
  repeat' split
  all_goals first | exact Mono.fail | exact Mono.ret _ | exact Mono.opt _ | exact Mono.appendV P _ _ _ | exact Mono.copyV P _ _ _ | exact Mono.bnd (Mono.getMap _) fun _ => Mono.opt _ | exact Mono.bnd (Mono.setMap _ _) fun _ => Mono.ret _ | exact Mono.bnd (Mono.wrRow _ _ _) fun _ => Mono.ret _
theorem Mono.asVal {x : M Value} (h : Mono x) : Mono (asVal x) := Mono.bnd h fun _ => Mono.ret _
theorem Mono.ptrTo {x : M Nat} (h : Mono x) : Mono (ptrTo x) := Mono.bnd h fun _ => Mono.ret _
theorem Mono.optVal (o : Option Value) : Mono (optVal o) := by unfold Shade.optVal; split <;> first | exact Mono.ret _ | exact Mono.fail
theorem Mono.aggOf (o : Option (List Value)) : Mono (aggOf o) := by unfold Shade.aggOf; split <;> first | exact Mono.ret _ | exact Mono.fail
theorem Mono.found (et : TypeId) (ok : Bool) (r : Option (Nat × Value)) : Mono (found P et ok r) := by
  unfold Shade.found; repeat' split
  all_goals first | exact Mono.ret _ | exact Mono.fail
theorem Mono.lookIn (kt et : TypeId) (k : Value) (ok : Bool) (es : List (Value × Value)) : Mono (lookIn P kt et k ok es) := by
  unfold Shade.lookIn; repeat' split
  all_goals first | exact Mono.found P _ _ _ | exact Mono.fail
theorem Mono.storeIn (kt : TypeId) (r : Nat) (k x : Value) (es : List (Value × Value)) : Mono (storeIn P kt r k x es) := by
  unfold Shade.storeIn; repeat' split
  all_goals first | exact Mono.fail | exact Mono.bnd (Mono.setMap _ _) fun _ => Mono.ret _
theorem Mono.notThat (t : TypeId) (ok : Bool) : Mono (notThat P t ok) := by
  unfold Shade.notThat; repeat' split
  all_goals first | exact Mono.ret _ | exact Mono.fail
theorem Mono.entered (o : Option (FuncId × List Value)) : Mono (entered o) := by unfold Shade.entered; repeat' split <;> first | exact Mono.ret _ | exact Mono.fail
theorem Mono.deferred (o : Option (FuncId × List Value)) : Mono (deferred o) := by unfold Shade.deferred; repeat' split <;> first | exact Mono.ret _ | exact Mono.fail
theorem Mono.opPanic (x : Value) : Mono (opPanic x) := by unfold Shade.opPanic; split <;> first | exact Mono.ret _ | exact Mono.fail

theorem Mono.evOp (ρ : Operand → Value) (op : Op) : Mono (evOp P ρ op) := by
  cases op <;> simp only [Shade.evOp] <;> (try exact Mono.fail) <;> (try exact Mono.ret _) <;> (try exact Mono.optVal _) <;> (try exact Mono.opPanic _)
  case pick => unfold opPick; split <;> first | exact Mono.ret _ | exact Mono.fail
  case alloc => unfold opAlloc; split <;> first | exact Mono.ptrTo (Mono.newRow _ _ _) | exact Mono.fail
  case box => exact Mono.ptrTo (Mono.newRow _ _ _)
  case build => unfold opBuild; repeat' split
                all_goals first | exact Mono.aggOf _ | exact Mono.fail
  case buildSlice => unfold opBuildSlice; repeat' split
                     all_goals first | exact Mono.fail | exact Mono.bnd (Mono.newRow _ _ _) fun _ => Mono.ret _
  case load => unfold opLoad; split <;> first | exact Mono.fail | exact Mono.asVal (Mono.loadV P _ _ _)
  case store => unfold opStore; split <;> first | exact Mono.fail | exact Mono.bnd (Mono.storeV P _ _ _ _) fun _ => Mono.ret _
  case nilCheck => unfold opNilCheck; split <;> first | exact Mono.ret _ | exact Mono.fail
  case convert => exact Mono.asVal (Mono.convV P _ _ _)
  case makeInterface => unfold opIface; split <;> first | exact Mono.ret _ | exact Mono.fail
  case makeSlice => unfold opMakeSlice; repeat' split
                    all_goals first | exact Mono.fail | exact Mono.bnd (Mono.newRow _ _ _) fun _ => Mono.ret _
  case makeMap t r => cases r with
    | none => exact Mono.bnd (Mono.newObj _) fun _ => Mono.ret _
    | some _ => exact Mono.fail
  case slice => unfold opSlice; split <;> first | exact Mono.optVal _ | exact Mono.fail
  case fieldAddr => unfold opFieldAddr; repeat' split
                    all_goals first | exact Mono.fail | exact Mono.force _ fun _ => Mono.ret _
  case field => unfold opField; repeat' split
                all_goals first | exact Mono.fail | exact Mono.optVal _
  case indexAddr => unfold opIndexAddr ptrAt; repeat' split
                    all_goals first | exact Mono.fail | exact Mono.force _ fun _ => Mono.ret _
  case index => unfold opIndex; repeat' split
                all_goals first | exact Mono.fail | exact Mono.ret _ | exact Mono.optVal _
  case lookup => unfold opLookup; repeat' split
                 all_goals first | exact Mono.fail | exact Mono.lookIn P _ _ _ _ _ | exact Mono.bnd (Mono.getMap _) fun _ => Mono.lookIn P _ _ _ _ _
  case mapUpdate => unfold opMapUpdate; repeat' split
                    all_goals first | exact Mono.fail | exact Mono.bnd (Mono.getMap _) fun _ => Mono.storeIn P _ _ _ _ _
  case range => unfold opRange; repeat' split
                all_goals first | exact Mono.fail | exact Mono.ptrTo (Mono.newObj _)
  case next => unfold opNext nextAt; repeat' split
               all_goals first | exact Mono.fail | exact Mono.touch _ _
  case typeAssert => unfold opAssert assertTo; repeat' split
                     all_goals first | exact Mono.fail | exact Mono.ret _ | exact Mono.notThat P _ _
  case extract => unfold opExtract; split <;> first | exact Mono.fail | exact Mono.optVal _
  case call c =>
    unfold opCall; split
    · exact Mono.entered _
    · unfold opBuiltin; split <;> first | exact Mono.ret _ | exact Mono.opPanic _ | exact Mono.asVal (Mono.builtinV P _ _ _)
    · exact Mono.fail
  case defer c =>
    unfold opDefer; split
    · exact Mono.deferred _
    · exact Mono.fail
end
section
variable (P : Program) {call : CallSem}
theorem Mono.normed (o : Option Fr) : Mono (normed o) := by unfold Shade.normed; split <;> first | exact Mono.ret _ | exact Mono.fail
theorem Mono.called (fr : Fr) (dst : Option Tmp) (r : COut) : Mono (called fr dst r) := by
  cases r with
  | ret v _ => exact Mono.normed _
  | panic v => exact Mono.ret _
theorem Mono.seen (fr : Fr) (dst : Option Tmp) : Mono (seen fr dst) := by
  unfold Shade.seen; split <;> exact Mono.normed _
theorem Mono.after (hc : MonoCall call) (dst : Option Tmp) (fr : Fr) (r : Res) : Mono (after call dst fr r) := by
  cases r with
  | val v => exact Mono.normed _
  | enter f args => exact Mono.bnd (hc _ _ _) fun r => Mono.called _ _ _
  | panic v => exact Mono.ret _
  | defer f args => exact Mono.normed _
  | recover => exact Mono.seen _ _
theorem Mono.evOne (hc : MonoCall call) (ops : List Oper) (o : Oper) (fr : Fr) : Mono (evOne P call ops o fr) := by
  unfold Shade.evOne; split
  · exact Mono.normed _
  · exact Mono.bnd (Mono.evOp P _ _) fun r => Mono.after hc _ _ _
theorem Mono.evOps (hc : MonoCall call) (ops : List Oper) : ∀ l fr, Mono (evOps P call ops l fr)
  | [], _ => Mono.ret _
  | o :: l, fr => Mono.bnd (Mono.evOne P hc ops o fr) fun r => by
    obtain ⟨out, fr⟩ := r
    cases out <;> first | exact Mono.evOps hc ops l fr | exact Mono.ret _
theorem Mono.valOf (hc : MonoCall call) (r : Res) : Mono (valOf call r) := by
  cases r <;> first | exact Mono.ret _ | exact Mono.fail | skip
  exact Mono.bnd (hc _ _ _) fun r => by cases r <;> first | exact Mono.ret _ | exact Mono.fail
theorem Mono.evVal (hc : MonoCall call) (ops : List Oper) (o : Oper) (fr : Fr) : Mono (evVal P call ops o fr) := by
  unfold Shade.evVal; split
  · exact Mono.ret _
  · exact Mono.bnd (Mono.evOp P _ _) fun r => Mono.valOf hc r
theorem Mono.evDraw (hc : MonoCall call) (ops : List Oper) : ∀ l fr recs, Mono (evDraw P call ops l fr recs)
  | [], _, _ => Mono.ret _
  | o :: l, fr, recs => Mono.bnd (Mono.sub (Mono.evVal P hc ops o fr)) fun r => Mono.bnd (Mono.opt _) fun fr => Mono.evDraw hc ops l fr (r.2 :: recs)
theorem Mono.evRegion (hc : MonoCall call) (ops : List Oper) (draw : Bool) (fr : Fr) : Mono (evRegion P call ops draw fr) := by
  cases draw with
  | false => exact Mono.evOps P hc ops ops fr
  | true =>
    simp only [Shade.evRegion]
    refine Mono.bnd Mono.getN fun n0 => ?_
    refine Mono.bnd (Mono.evDraw P hc ops ops fr []) fun r => ?_
    unfold evDrawn
    split <;> first | exact Mono.ret _ | exact Mono.fail
theorem Mono.evLoop {body : Fr → M Ran} (hb : ∀ fr, Mono (body fr)) : ∀ k fr, Mono (evLoop body k fr)
  | 0, _ => Mono.fail
  | k + 1, fr => Mono.bnd (hb fr) fun r => by
    obtain ⟨out, fr⟩ := r
    cases out <;> first | exact Mono.evLoop hb k fr | exact Mono.ret _
theorem Mono.unblock (id : Nat) (r : Ran) : Mono (unblock id r) := by
  obtain ⟨out, fr⟩ := r
  cases out <;> simp only [Shade.unblock] <;> (try exact Mono.ret _)
  split <;> exact Mono.ret _
theorem Mono.evC (hc : MonoCall call) (lf : Nat) : ∀ c fr, Mono (evC P call lf c fr) := by
  intro c
  induction c with
  | skip => exact fun _ => Mono.ret _
  | label => exact fun _ => Mono.ret _
  | region id ops draw => exact fun fr => Mono.evRegion P hc _ _ fr
  | seq a b iha ihb =>
    refine fun fr => Mono.bnd (iha fr) fun r => ?_
    obtain ⟨out, fr⟩ := r
    cases out <;> first | exact ihb fr | exact Mono.ret _
  | cond c a b iha ihb =>
    intro fr
    simp only [Shade.evC]
    split <;> first | exact iha fr | exact ihb fr | exact Mono.fail
  | block id body ih => exact fun fr => Mono.bnd (ih fr) fun r => Mono.unblock id r
  | loop body ih => exact fun fr => Mono.evLoop ih lf fr
  | scope body ih => exact ih
  | exit id => exact fun _ => Mono.ret _
  | ret => exact fun _ => Mono.ret _
  | goto => exact fun _ => Mono.fail
  | rangeFunc => exact fun _ => Mono.fail
  | refuse => exact fun _ => Mono.fail
theorem Mono.evResults (T : Tr Value) : ∀ l, Mono (evResults P T l)
  | [] => Mono.ret _
  | .tmp t :: l => Mono.bnd (Mono.evResults T l) fun _ => Mono.ret _
  | .cell a t :: l => by
    simp only [Shade.evResults]
    split
    · exact Mono.bnd (Mono.loadV P _ _ _) fun _ => Mono.bnd (Mono.evResults T l) fun _ => Mono.ret _
    · exact Mono.fail
theorem Mono.evUnwind (hc : MonoCall call) (res : List ResultVar) (T : Tr Value) (recd : Bool) : ∀ ds p, Mono (evUnwind P call res T recd ds p)
  | [], none => Mono.bnd (Mono.evResults P T res) fun _ => Mono.ret _
  | [], some _ => Mono.ret _
  | (f, args) :: ds, p => Mono.bnd (hc f args p) fun r => by
    cases r with
    | ret v b => cases b <;> exact Mono.evUnwind hc res T recd ds _
    | panic v => exact Mono.fail
theorem Mono.leave (hc : MonoCall call) (res : List ResultVar) (r : Ran) : Mono (leave P call res r) := by
  obtain ⟨out, fr⟩ := r
  obtain ⟨T, nt, defs, pan, recd⟩ := fr
  cases out <;> first | exact Mono.evUnwind P hc _ _ _ _ _ | exact Mono.fail
theorem Mono.evF (lf : Nat) : ∀ d, MonoCall (evF P lf d)
  | 0 => fun _ _ _ => Mono.fail
  | d + 1 => fun f args p => by
    simp only [Shade.evF]
    split
    · unfold enterF
      split
      · exact Mono.bnd (Mono.evC P (Mono.evF lf d) lf _ _) fun r => Mono.leave P (Mono.evF lf d) _ r
      · exact Mono.fail
    · exact Mono.fail
end
end Go.Shade
