/- The evaluator's operations beside the model's. The whole. -/
import Derived.Test.YteailohgaoglnaaGreatDoorShadeR
namespace Go.Shade
open Go.RowKit
set_option linter.unusedVariables false

section
variable {P : Program} {base : Nat} {m : Mp} {s : S} {w : World}

theorem VRelL.mapA {α : Type} {f g : α → Value} : ∀ {l : List α}, (∀ x ∈ l, VRel m (f x) (g x)) → VRelL m (l.map f) (l.map g)
  | [], _ => .nil
  | x :: l, h => .cons (h x (by simp)) (VRelL.mapA fun y hy => h y (by simp [hy]))

theorem sim_panic (h : HRel m s.H w base) {x x' : Value} (hx : VRel m x x') {f : Value → Sem Next} : SimOp P base m s w (opPanic x) (Instr.panic x' >>= f) := by
  unfold opPanic
  split
  · rename_i t y
    intro r s' e hf
    obtain ⟨rfl, rfl⟩ := M.ret_some e
    cases hx with
    | atom q => simp [atomic] at q
    | iface hy => exact ⟨m, w, Step.refl h, _, by simp [Instr.panic], .iface hy⟩
  · exact SimOp.fail

theorem callee_some {f f' : Value} {args args' : List Value} {g : FuncId} {as : List Value} (h : callee f args = some (g, as)) (hf : VRel m f f') (ha : VRelL m args args') :
    ∃ first captured : Array Value, f' = .func (.func g) first captured ∧ VRelL m as (first.toList ++ args' ++ captured.toList) := by
  unfold callee at h
  split at h
  · rename_i g' first captured
    cases h
    cases hf with
    | atom q => simp [atomic] at q
    | func h1 h2 => exact ⟨_, _, rfl, (h1.append ha).append h2⟩
  · cases h

theorem sim_callBuiltin (ok : POk P) (h : HRel m s.H w base) (b : Builtin) (ats : Array TypeId) (ty : TypeId) (cs : Array Bool) {args : List Value} {args' : Array Value} (ha : VRelL m args args'.toList) :
    SimOp P base m s w (opBuiltin P b ats.toList args) (builtin b ats ty cs args') := by
  obtain ⟨l'⟩ := args'
  simp only [] at ha
  have hat : ∀ {t : TypeId} {l : List TypeId}, ats.toList = t :: l → ats[0]? = some t := fun e => by rw [← Array.getElem?_toList, e]; rfl
  have hat1 : ∀ {t u : TypeId} {l : List TypeId}, ats.toList = t :: u :: l → ats[1]? = some u := fun e => by rw [← Array.getElem?_toList, e]; rfl
  generalize hts : ats.toList = ts
  unfold opBuiltin
  split
  · intro r s' e hf
    obtain ⟨rfl, rfl⟩ := M.ret_some e
    exact ⟨m, w, Step.refl h, rfl⟩
  · rename_i x
    cases ha with
    | cons hx hl =>
      cases hl
      exact sim_panic h hx
  · unfold builtinV
    split
    · cases ha with
      | cons hy hl => cases hl with
        | cons hx hl =>
          cases hl
          exact SimOp.val (sim_append ok h ty (hat hts) (hat1 hts) hy hx).asVal
    · cases ha with
      | cons hy hl => cases hl with
        | cons hx hl =>
          cases hl
          exact SimOp.val (sim_copy h ty (hat hts) hy hx).asVal
    · cases ha with
      | cons hy hl =>
        cases hl
        exact SimOp.val (sim_len h ty (hat hts) hy).asVal
    · cases ha with
      | cons hy hl => exact SimOp.val (sim_max h _ ty hy hl).asVal
    · cases ha with
      | cons hy hl => exact SimOp.val (sim_min h _ ty hy hl).asVal
    · cases ha with
      | cons hy hl =>
        cases hl
        exact SimOp.val (sim_clear ok h ty (hat hts) hy).asVal
    · intro r s' e hf
      obtain ⟨_, _, e1, _⟩ := M.bnd_some e
      exact (M.fail_some e1).elim

theorem run_resolve_value {ρ' : Operand → Value} {c : Call} {f : Operand} (hc : c.callee = .value f) (ty : TypeId) {fn : Fn} {first captured : Array Value} (hv : ρ' f = .func fn first captured) :
    (resolve ρ' c ty).run P w = .ok { target := .fn fn captured, args := first ++ c.args.map ρ' } w := by
  simp [resolve, hc, hv, Deferred.ofValue]

theorem sim_op (ok : POk P) (h : HRel m s.H w base) {ρ ρ' : Operand → Value} (o : Oper) (hρ : ∀ x ∈ o.op.operands.toList, VRel m (ρ x) (ρ' x)) :
    SimOp P base m s w (evOp P ρ o.op) (execOp ρ' o) := by
  unfold evOp
  split
  all_goals rename_i ho
  all_goals (try exact SimOp.fail)
  all_goals simp only [ho, Op.operands] at hρ
  · exact SimOp.retVal h (by simp [execOp, ho]) (hρ _ (by simp))
  · exact SimOp.retVal h (by simp [execOp, ho]) (hρ _ (by simp))
  · simp only [execOp, ho]
    exact sim_pick h (hρ _ (by simp)) (hρ _ (by simp)) (hρ _ (by simp))
  · simp only [execOp, ho]; exact SimOp.val (sim_alloc ok h _)
  · simp only [execOp, ho]; exact SimOp.val (sim_box h _ (hρ _ (by simp)))
  · simp only [execOp, ho]; exact SimOp.val (sim_build ok h _ (by
      rw [Array.toList_map]
      exact PRel.map (fun p : Nat × Operand => p.1) fun x hx => hρ x.2 (List.mem_map.2 ⟨x, hx, rfl⟩)))
  · simp only [execOp, ho]; exact SimOp.val (sim_buildSlice ok h _ _ (by
      rw [Array.toList_map]
      exact PRel.map (fun p : Nat × Operand => p.1) fun x hx => hρ x.2 (List.mem_map.2 ⟨x, hx, rfl⟩)))
  · simp only [execOp, ho]; exact SimOp.val (sim_load h _ (hρ _ (by simp)))
  · simp only [execOp, ho]; exact SimOp.skip (sim_store h _ (hρ _ (by simp)) (hρ _ (by simp)))
  · exact sim_nilCheck h ho (hρ _ (by simp))
  · simp only [execOp, ho]
    refine SimOp.val (Sim.optVal h fun v hv => ?_)
    exact ⟨v, run_bin _ _ _ _ hv (hρ _ (by simp)) (hρ _ (by simp))⟩
  · simp only [execOp, ho]
    refine SimOp.val (Sim.optVal h fun v hv => ?_)
    exact ⟨v, run_un hv (hρ _ (by simp))⟩
  · simp only [execOp, ho]; exact SimOp.val (sim_conv h _ _ (hρ _ (by simp))).asVal
  · simp only [execOp, ho]; exact SimOp.val (sim_iface h _ (hρ _ (by simp)))
  · rename_i fn first captured
    refine SimOp.retVal (v' := .func fn (first.map ρ') (captured.map ρ')) h (by simp only [execOp, ho, Instr.makeFunc, Sem.run_bind, Sem.run_pure, Result.andThen_ok]) (.func ?_ ?_)
    · rw [Array.toList_map, Array.toList_map]; exact VRelL.mapA fun x hx => hρ _ (by simp; exact .inl (by simpa using hx))
    · rw [Array.toList_map, Array.toList_map]; exact VRelL.mapA fun x hx => hρ _ (by simp; exact .inr (by simpa using hx))
  · simp only [execOp, ho]; exact SimOp.val (sim_makeSlice ok h _ (hρ _ (by simp)) (hρ _ (by simp)))
  · simp only [execOp, ho, Option.map_none]; exact SimOp.val (sim_makeMap h _)
  · simp only [execOp, ho]
    refine SimOp.val (sim_slice h _ (hρ _ (by simp)) ?_ ?_ ?_)
    all_goals
      intro r hr
      refine natO_some (m := m) hr ?_ ?_
      · intro v hv
        obtain ⟨y, hy, rfl⟩ := Option.map_eq_some_iff.1 hv
        exact ⟨ρ' y, by simp [hy], hρ _ (by simp [hy])⟩
      · intro hv
        simpa using hv
  · simp only [execOp, ho]; exact SimOp.val (sim_fieldAddr h _ _ (hρ _ (by simp)))
  · simp only [execOp, ho]; exact SimOp.val (sim_field h _ _ (hρ _ (by simp)))
  · simp only [execOp, ho]; exact SimOp.val (sim_indexAddr h _ (hρ _ (by simp)) (hρ _ (by simp)))
  · simp only [execOp, ho]; exact SimOp.val (sim_index h _ (hρ _ (by simp)) (hρ _ (by simp)))
  · simp only [execOp, ho]; exact SimOp.val (sim_lookup ok h _ _ (hρ _ (by simp)) (hρ _ (by simp)))
  · simp only [execOp, ho]; exact SimOp.skip (sim_mapUpdate h _ (hρ _ (by simp)) (hρ _ (by simp)) (hρ _ (by simp)))
  · simp only [execOp, ho]; exact SimOp.val (sim_range h _ (hρ _ (by simp)))
  · simp only [execOp, ho]; exact SimOp.val (sim_next h _ _ (hρ _ (by simp)))
  · simp only [execOp, ho]; exact SimOp.val (sim_assert ok h _ _ _ (hρ _ (by simp)))
  · simp only [execOp, ho]; exact SimOp.val (sim_extract h _ (hρ _ (by simp)))
  · simp only [execOp, ho]; exact sim_panic h (hρ _ (by simp))
  · rename_i c
    unfold opDefer
    split
    · rename_i f hc
      intro r s' e hf
      cases hq : callee (ρ f) (c.args.toList.map ρ) with
      | none => rw [hq] at e; exact (M.fail_some (s := s) e).elim
      | some q =>
        obtain ⟨g, as⟩ := q
        rw [hq] at e
        obtain ⟨rfl, rfl⟩ := M.ret_some e
        obtain ⟨first, captured, h1, h2⟩ := callee_some (m := m) (f' := ρ' f) (args' := c.args.toList.map ρ') hq (hρ _ (by simp [Call.operands, hc])) (VRelL.mapA fun x hx => hρ _ (by simp [Call.operands, hc]; exact .inr (by simpa using hx)))
        refine ⟨m, w, Step.refl h, captured, first ++ c.args.map ρ', ?_, by simpa using h2⟩
        simp only [execOp, ho, Sem.run_bind, run_resolve_value hc o.type h1, Result.andThen_ok, Sem.run_pure]
    · exact SimOp.fail
  · rename_i c
    unfold opCall
    split
    · rename_i f hc
      intro r s' e hf
      cases hq : callee (ρ f) (c.args.toList.map ρ) with
      | none => rw [hq] at e; exact (M.fail_some (s := s) e).elim
      | some q =>
        obtain ⟨g, as⟩ := q
        rw [hq] at e
        obtain ⟨rfl, rfl⟩ := M.ret_some e
        obtain ⟨first, captured, h1, h2⟩ := callee_some (m := m) (f' := ρ' f) (args' := c.args.toList.map ρ') hq (hρ _ (by simp [Call.operands, hc])) (VRelL.mapA fun x hx => hρ _ (by simp [Call.operands, hc]; exact .inr (by simpa using hx)))
        refine ⟨m, w, Step.refl h, fun fn hfn hb hnm => ⟨first ++ c.args.map ρ' ++ captured, ?_, by simpa using h2⟩⟩
        have hb2 : fn.body.isNone = false := by cases hbb : fn.body <;> simp [hbb] at hb ⊢
        have hnm2 : (fn.name == "runtime.NumGoroutine") = false := by simpa using hnm
        simp only [execOp, ho, Sem.run_bind, run_resolve_value hc o.type h1, Result.andThen_ok, invoke, callFunc]
        simp [hfn, hnm]
        intro hn; rw [hn] at hb2; cases hb2
    · rename_i b hc
      have hrun : (execOp ρ' o) = (do let d ← resolve ρ' c o.type; invoke d.target d.args) := by simp only [execOp, ho]
      have := sim_callBuiltin ok h b c.argTypes o.type (c.args.map fun | .const _ => true | _ => false) (args := c.args.toList.map ρ) (args' := c.args.map ρ') (by
        rw [Array.toList_map]; exact VRelL.mapA fun x hx => hρ _ (by simp [Call.operands, hc]; simpa using hx))
      intro r s' e hf
      obtain ⟨m', w', h1, h2⟩ := this r s' e hf
      refine ⟨m', w', h1, ?_⟩
      rw [hrun]
      simp only [Sem.run_bind, resolve, hc, Sem.run_pure, Result.andThen_ok, invoke]
      exact h2
    · exact SimOp.fail
end
end Go.Shade
