/- One operation of a region, beside the machine's. -/
import Derived.Test.YteailohgaoglnaaGreatDoorShadeT
import Derived.Recover
import Derived.Orders
namespace Go.Shade
open Go.RowKit
set_option linter.unusedVariables false

section
variable {P : Program} {b : Frame} {a : Act} {k : List Item} {cs : List Frame} {w w' : World} {ops : Array Oper} {i : Nat} {rest : List Nat} {o : Oper}

theorem fin_at (ho : ops[i]? = some o) (v : Value) : (b.at a (.inRegion ops (i :: rest) :: k)).finish v = b.at (a.put o.dst v) (.inRegion ops rest :: k) := by
  rw [Frame.finish_at, ho]; rfl

theorem op_value (ho : ops[i]? = some o) (hw : Region.wanted o (yielded ops a.tmps) = true) {v : Value} (hr : (execOp a.eval o).run P w = .ok (.value v) w') :
    step P (lone (b.at a (.inRegion ops (i :: rest) :: k)) cs w) = .next (lone (b.at (a.put o.dst v) (.inRegion ops rest :: k)) cs w') :=
  step_lone_go (by rw [stepG_op ho hw, ← fin_at ho]; simp [stepG.apply, hr])
theorem op_skip (ho : ops[i]? = some o) (hw : Region.wanted o (yielded ops a.tmps) = true) (hr : (execOp a.eval o).run P w = .ok .skip w') :
    step P (lone (b.at a (.inRegion ops (i :: rest) :: k)) cs w) = .next (lone (b.at (a.put o.dst undef) (.inRegion ops rest :: k)) cs w') :=
  step_lone_go (by rw [stepG_op ho hw, ← fin_at ho]; simp [stepG.apply, hr])
theorem op_defer (ho : ops[i]? = some o) (hw : Region.wanted o (yielded ops a.tmps) = true) {d : Deferred} (hr : (execOp a.eval o).run P w = .ok (.defer d) w') :
    step P (lone (b.at a (.inRegion ops (i :: rest) :: k)) cs w) = .next (lone (b.at ({ a with defers := d :: a.defers }.put o.dst undef) (.inRegion ops rest :: k)) cs w') := by
  refine step_lone_go ?_
  have : ({ b.at a (.inRegion ops (i :: rest) :: k) with defers := d :: a.defers } : Frame).finish undef =
      b.at ({ a with defers := d :: a.defers }.put o.dst undef) (.inRegion ops rest :: k) := by
    have := Frame.finish_at b { a with defers := d :: a.defers } ops i rest k undef
    rw [ho] at this; exact this
  rw [stepG_op ho hw]; simp only [stepG.apply, Sem.runT_eq, hr, GStep.bare_after]
  exact congrArg (fun fr => GStep.go { frame := fr, callers := cs, status := .running, dying := none } w') this
theorem op_enter (ho : ops[i]? = some o) (hw : Region.wanted o (yielded ops a.tmps) = true) {f : FuncId} {args : Array Value} (hr : (execOp a.eval o).run P w = .ok (.enter f args) w') :
    step P (lone (b.at a (.inRegion ops (i :: rest) :: k)) cs w) = .next (lone (Frame.enter P f args .normal) (b.at a (.inRegion ops (i :: rest) :: k) :: cs) w') :=
  step_lone_go (by rw [stepG_op ho hw]; simp [stepG.apply, hr, Frame.at])
theorem op_panic (ho : ops[i]? = some o) (hw : Region.wanted o (yielded ops a.tmps) = true) {v : Value} (hr : (execOp a.eval o).run P w = .halt (.panic v) w') :
    step P (lone (b.at a (.inRegion ops (i :: rest) :: k)) cs w) = .next (lone { b.at a (.inRegion ops (i :: rest) :: k) with mode := .panicking [{ v, recovered := false }] } cs w') :=
  step_lone_go (by rw [stepG_op ho hw, ← Frame.raise_at]; simp [stepG.apply, hr])
theorem op_recover_some (ho : ops[i]? = some o) (hw : Region.wanted o (yielded ops a.tmps) = true) (hr : (execOp a.eval o).run P w = .ok .recover w') (hk : b.kind = .deferred) {v : Value} {cs' : List Frame} (hrec : recoverD cs = some (v, cs')) :
    step P (lone (b.at a (.inRegion ops (i :: rest) :: k)) cs w) = .next (lone (b.at (a.put o.dst v) (.inRegion ops rest :: k)) cs' w') := by
  have htr := tryRecover_deferred (fr := b.at a (.inRegion ops (i :: rest) :: k)) hk cs
  refine step_lone_go ?_
  rw [stepG_op ho hw, ← fin_at ho]
  simp only [Frame.at] at htr ⊢
  simp [stepG.apply, hr, htr, hrec]
theorem op_recover_none (ho : ops[i]? = some o) (hw : Region.wanted o (yielded ops a.tmps) = true) (hr : (execOp a.eval o).run P w = .ok .recover w') (hk : b.kind = .normal ∨ b.kind = .deferred ∧ recoverD cs = none) :
    step P (lone (b.at a (.inRegion ops (i :: rest) :: k)) cs w) = .next (lone (b.at (a.put o.dst .nilIface) (.inRegion ops rest :: k)) cs w') := by
  have htr : tryRecover (b.at a (.inRegion ops (i :: rest) :: k)) cs = none := by
    rcases hk with hk | ⟨hk, hrec⟩
    · have hk : (b.at a (.inRegion ops (i :: rest) :: k)).kind = .normal := hk
      cases cs <;> simp [tryRecover, hk]
    · rw [tryRecover_deferred (fr := b.at a (.inRegion ops (i :: rest) :: k)) hk cs]; exact hrec
  refine step_lone_go ?_
  rw [stepG_op ho hw, ← fin_at ho]
  simp only [Frame.at] at htr ⊢
  simp [stepG.apply, hr, htr]
end

/-- The mode of the frame that called a deferred function. -/
def modeOf : Option Value → FrameMode
  | none => .returning
  | some v => .panicking [{ v, recovered := false }]
/-- The callers once the panic has been recovered. -/
def csOf (p : Option Value) (recd : Bool) (cs : List Frame) : List Frame := match recd, p, cs with
  | true, some v, c :: rest => { c with mode := .panicking [{ v, recovered := true }] } :: rest
  | _, _, cs => cs
def CsOk (kind : CallKind) (p : Option Value) (cs : List Frame) : Prop := (kind = .normal ∧ p = none) ∨ (kind = .deferred ∧ ∃ c rest, cs = c :: rest ∧ c.mode = modeOf p)

inductive DRel (m : Mp) : List (FuncId × List Value) → List Deferred → Prop where
  | nil : DRel m [] []
  | cons {f : FuncId} {args : List Value} {as c : Array Value} {l : List (FuncId × List Value)} {l' : List Deferred} : VRelL m args (as ++ c).toList → DRel m l l' → DRel m ((f, args) :: l) ({ target := .fn (.func f) c, args := as } :: l')
theorem DRel.mono {m m' : Mp} (hm : MLe m m') : ∀ {l l'}, DRel m l l' → DRel m' l l'
  | _, _, .nil => .nil
  | _, _, .cons h k => .cons (h.mono hm) (DRel.mono hm k)

def TRel (m : Mp) (T : Tr Value) (t : Array Value) : Prop := ∀ i, VRel m (tmpOf T i) (t.getD i undef)

structure FrRel (m : Mp) (fr : Fr) (a : Act) : Prop where
  tmps : TRel m fr.tmps a.tmps
  size : fr.nt ≤ a.tmps.size
  defs : DRel m fr.defs a.defers
theorem FrRel.mono {m m' : Mp} {fr : Fr} {a : Act} (hm : MLe m m') (h : FrRel m fr a) : FrRel m' fr a := ⟨fun i => (h.tmps i).mono hm, h.size, h.defs.mono hm⟩

def PanRel (m : Mp) (pan : Option Value) (recd : Bool) (p' : Option Value) : Prop :=
  (pan = none ∧ recd = false ∧ p' = none) ∨ (∃ v v', pan = some v ∧ recd = false ∧ p' = some v' ∧ VRel m v v') ∨ (pan = none ∧ recd = true ∧ ∃ v', p' = some v')
theorem PanRel.mono {m m' : Mp} {pan : Option Value} {recd : Bool} {p' : Option Value} (hm : MLe m m') (h : PanRel m pan recd p') : PanRel m' pan recd p' := by
  rcases h with h | ⟨v, v', a, b, c, d⟩ | h
  · exact .inl h
  · exact .inr (.inl ⟨v, v', a, b, c, d.mono hm⟩)
  · exact .inr (.inr h)

def CallOut (P : Program) (f : FuncId) (args' : Array Value) (p' : Option Value) (w : World) (m' : Mp) (w' : World) : COut → Prop
  | .ret v recd => ∃ v', VRel m' v v' ∧ (recd = true → ∃ v, p' = some v) ∧ ∀ kind cs, CsOk kind p' cs → ∃ fr, Steps P (lone (Frame.enter P f args' kind) cs w) (lone fr (csOf p' recd cs) w') ∧
      fr.fn = f ∧ fr.kind = kind ∧ fr.mode = .returning ∧ fr.defers = [] ∧ ∃ fn, P.funcs[f]? = some fn ∧ (results fn fr.tmps).run P w' = .ok v' w'
  | .panic v => p' = none → ∃ v', VRel m' v v' ∧ ∀ cs, ∃ fr, Steps P (lone (Frame.enter P f args' .normal) cs w) (lone fr cs w') ∧
      fr.fn = f ∧ fr.mode = .panicking [{ v := v', recovered := false }] ∧ fr.defers = [] ∧ ∃ fn, P.funcs[f]? = some fn

/-- What is asked of a call's meaning. -/
structure CallOK (P : Program) (base : Nat) (call : CallSem) : Prop where
  code : ∀ f args pan r s, call f args pan s = some r → ∃ fn c, P.funcs[f]? = some fn ∧ fn.body = some c ∧ fn.name ≠ "runtime.NumGoroutine"
  run : ∀ f args pan r s s' m w args' p', call f args pan s = some (r, s') → Fresh m s.n s'.n → HRel m s.H w base → Glob P m → VRelL m args args'.toList → PanRel m pan false p' →
    ∃ m' w', Step base m m' s.n s'.n s'.H w w' ∧ CallOut P f args' p' w m' w' r

theorem undef_rel (m : Mp) : VRel m undefV undef := .tuple .nil
theorem VRel.undef_inv {m : Mp} {v' : Value} (h : VRel m undefV v') : v' = undef := by
  cases h with
  | atom q => rfl
  | tuple h =>
    have h2 := h.length
    simp only [undef]
    congr 1
    exact Array.toList_inj.1 (List.length_eq_zero_iff.1 h2.symm)

theorem opd_rel {P : Program} {m : Mp} (hg : Glob P m) {T : Tr Value} {a : Act} (h : TRel m T a.tmps) (x : Operand) (hx : okOpd P x = true) : VRel m (evOpd T x) (a.eval x) := by
  cases x with
  | tmp t => exact h t
  | const v => exact closed_rel m _ _ hx
  | global g =>
    obtain ⟨l, h1, h2, h3⟩ := hg g (by simpa [okOpd] using hx)
    have := VRel.ptr (i := 0) h1
    rw [h2, h3] at this
    simpa [evOpd, Act.eval, Shade.ptr] using this
  | func f => exact .func .nil .nil

theorem isBool_iff (want : Bool) (o : Option Value) : isBool want o = true ↔ o = some (.bool want) := by
  unfold isBool
  split
  · rename_i b; simp
  · rename_i h
    simp only [Bool.false_eq_true, false_iff]
    intro e; exact h _ e

/-- A guard asks the same of both. -/
theorem wanted_rel {m : Mp} {ops : Array Oper} {o : Oper} {T : Tr Value} {t : Array Value} (h : ∀ j want d, o.guard = some (j, want) → (ops[j]?).bind (·.dst) = some d → VRel m (tmpOf T d) (t.getD d undef)) :
    wantedF ops.toList o.guard T = Region.wanted o (yielded ops t) := by
  unfold wantedF Region.wanted
  cases hg : o.guard with
  | none => rfl
  | some gw =>
    obtain ⟨j, want⟩ := gw
    simp only []
    have hd : dstOf ops.toList j = (ops[j]?).bind (·.dst) := by
      unfold dstOf
      rw [nth_eq, Array.getElem?_toList]
      cases ops[j]? <;> rfl
    rw [hd]
    unfold yielded
    cases hq : (ops[j]?).bind (·.dst) with
    | none => simp
    | some d =>
      have hr := h j want d hg hq
      simp only [Option.bind_some]
      have key : isBool want (T.get d) = true ↔ t[d]? = some (.bool want) := by
        rw [isBool_iff]
        unfold tmpOf at hr
        constructor
        · intro e
          rw [e] at hr
          have := hr.bool_inv
          simp only [Array.getD_eq_getD_getElem?] at this
          cases hq2 : t[d]? with
          | none => rw [hq2] at this; simp [undef] at this
          | some u => rw [hq2] at this; simp at this; rw [this]
        · intro e
          simp only [Array.getD_eq_getD_getElem?, e, Option.getD_some] at hr
          cases hq2 : T.get d with
          | none => rw [hq2] at hr; have := hr.undef_inv; simp [undef] at this
          | some u =>
            rw [hq2] at hr
            simp only [] at hr
            cases hr; rfl
      cases hb : isBool want (T.get d) with
      | true => rw [key.1 hb]; simp
      | false =>
        have hn : t[d]? ≠ some (.bool want) := fun e => by rw [key.2 e] at hb; cases hb
        cases hq2 : t[d]? with
        | none => simp
        | some u =>
          rw [hq2] at hn
          cases u <;> simp at hn ⊢
          rename_i c; cases c <;> cases want <;> simp_all
end Go.Shade
