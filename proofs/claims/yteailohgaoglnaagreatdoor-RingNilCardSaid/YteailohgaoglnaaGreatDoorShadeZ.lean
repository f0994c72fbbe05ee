/- Code, beside the machine's. -/
import Derived.Test.YteailohgaoglnaaGreatDoorShadeY
namespace Go.Shade
open Go.RowKit
set_option linter.unusedVariables false

def okOps (P : Program) (ops : List Oper) : Bool := ops.all fun o => o.op.operands.toList.all (okOpd P)
def okC (P : Program) : Code → Bool
  | .region _ ops draw => okOps P ops.toList && (!draw || okDraw ops.toList)
  | .seq a b => okC P a && okC P b
  | .cond c a b => okOpd P c && okC P a && okC P b
  | .block _ body => okC P body
  | .loop body => okC P body
  | .scope body => okC P body
  | _ => true

def SimR (P : Program) (base : Nat) (f : FuncId) (p' : Option Value) (m : Mp) (s : S) (w : World) (fr : Fr) (x : M Ran) (mach : Frame → List Item → List Frame → Machine) : Prop :=
  ∀ out fr' s', x s = some ((out, fr'), s') → Fresh m s.n s'.n → ∃ m' a' w' ex, Step base m m' s.n s'.n s'.H w w' ∧ FrRel m' fr' a' ∧ PanRel m' fr'.pan fr'.recd p' ∧ OutRel m' out ex ∧
    ∀ (b : Frame) (k : List Item) (cs : List Frame), b.fn = f → CsOk b.kind p' cs → Arrives P (mach b k (csOf p' fr.recd cs)) b k (csOf p' fr'.recd cs) ex a' w'

theorem OutRel.norm {m : Mp} {ex : Exit} (h : OutRel m .norm ex) : ex = .normal := by cases ex <;> first | rfl | exact h.elim
theorem OutRel.ne {m : Mp} {out : Out} {ex : Exit} (h : OutRel m out ex) (hn : out ≠ .norm) : ex ≠ .normal := by
  intro e; subst e
  cases out <;> first | exact hn rfl | exact h

section
variable {P : Program} {base : Nat} {call : CallSem} {f : FuncId} {p' : Option Value} {m : Mp} {s : S} {w : World} {fr : Fr} {a : Act}

theorem SimR.ret {out : Out} {ex : Exit} {mach : Frame → List Item → List Frame → Machine} (hfr : FrRel m fr a) (hp : PanRel m fr.pan fr.recd p') (h : HRel m s.H w base) (ho : ∀ m, OutRel m out ex)
    (hs : ∀ b k cs, Arrives P (mach b k cs) b k cs ex a w) : SimR P base f p' m s w fr (M.ret (out, fr)) mach := by
  intro out' fr' s' e hf
  obtain ⟨e1, rfl⟩ := M.ret_some e
  cases e1
  exact ⟨m, a, w, ex, Step.refl h, hfr, hp, ho m, fun b k cs _ _ => hs b k _⟩

/-- One piece, and what follows it where it ends as usual. -/
theorem SimR.bnd {x : M Ran} {g : Ran → M Ran} {mach mach1 : Frame → List Item → List Frame → Machine} (mx : Mono x) (mg : ∀ r, Mono (g r)) (item : Item) (hpl : item.plain = true)
    (hx : SimR P base f p' m s w fr x mach1) (hgo : ∀ b k cs, Steps P (mach b k cs) (mach1 b (item :: k) cs))
    (hret : ∀ out fr', out ≠ .norm → g (out, fr') = M.ret (out, fr'))
    (hg : ∀ fr1 s1 m1 a1 w1, MLe m m1 → FrRel m1 fr1 a1 → PanRel m1 fr1.pan fr1.recd p' → HRel m1 s1.H w1 base → SimR P base f p' m1 s1 w1 fr1 (g (.norm, fr1)) fun b k cs => lone (b.at a1 (item :: k)) cs w1) :
    SimR P base f p' m s w fr (M.bnd x g) mach := by
  intro out fr' s' e hf
  obtain ⟨⟨out1, fr1⟩, s1, e1, e2⟩ := M.bnd_some e
  have l1 := mx _ _ _ e1
  have l2 := mg _ _ _ _ e2
  obtain ⟨m1, a1, w1, ex1, st1, f1, p1, o1, r1⟩ := hx out1 fr1 s1 e1 (hf.left l2)
  have hle := st1.ext.le (hf.left l2)
  by_cases hn : out1 = .norm
  · subst hn
    have := o1.norm
    subst this
    obtain ⟨m2, a2, w2, ex2, st2, f2, p2, o2, r2⟩ := hg fr1 s1 m1 a1 w1 hle f1 p1 st1.rel out fr' s' e2 (hf.right st1.ext l1)
    exact ⟨m2, a2, w2, ex2, st1.trans st2 l1 l2, f2, p2, o2, fun b k cs hb hcs => .of_steps ((hgo b k _).trans (r1 b (item :: k) cs hb hcs)) (r2 b k cs hb hcs)⟩
  · rw [hret _ _ hn] at e2
    obtain ⟨e3, rfl⟩ := M.ret_some e2
    cases e3
    exact ⟨m1, a1, w1, ex1, st1, f1, p1, o1, fun b k cs hb hcs => .of_steps (hgo b k _) (.pass hpl (fun _ _ => .inl (o1.ne hn)) (r1 b (item :: k) cs hb hcs))⟩

theorem SimR.steps {x : M Ran} {mach mach1 : Frame → List Item → List Frame → Machine} (hx : SimR P base f p' m s w fr x mach1) (hgo : ∀ b k cs, Steps P (mach b k cs) (mach1 b k cs)) : SimR P base f p' m s w fr x mach := by
  intro out fr' s' e hf
  obtain ⟨m1, a1, w1, ex1, st1, f1, p1, o1, r1⟩ := hx out fr' s' e hf
  exact ⟨m1, a1, w1, ex1, st1, f1, p1, o1, fun b k cs hb hcs => .of_steps (hgo b k _) (r1 b k cs hb hcs)⟩

theorem okOps_spec {ops : List Oper} (h : okOps P ops = true) : ∀ o ∈ ops, ∀ x ∈ o.op.operands.toList, okOpd P x = true := by
  intro o ho x hx
  unfold okOps at h
  rw [List.all_eq_true] at h
  exact (List.all_eq_true.1 (h o ho)) x hx

theorem sim_ops (ok : POk P) (hc : CallOK P base call) (mc : MonoCall call) {ops : Array Oper} (hopd : okOps P ops.toList = true) : ∀ (l : List Oper) (j : Nat) (fr : Fr) (a : Act) (m : Mp) (s : S) (w : World), l = ops.toList.drop j →
    FrRel m fr a → PanRel m fr.pan fr.recd p' → HRel m s.H w base → Glob P m → SimR P base f p' m s w fr (evOps P call ops.toList l fr) fun b k cs => lone (b.at a (.inRegion ops (List.range' j l.length) :: k)) cs w
  | [], j, fr, a, m, s, w, hl, hfr, hp, h, hG => SimR.ret (ex := .normal) hfr hp h (fun _ => trivial) fun b k cs => Steps.one step_region_end
  | o :: l, j, fr, a, m, s, w, hl, hfr, hp, h, hG => by
    have hlt : j < ops.toList.length := by
      rcases Nat.lt_or_ge j ops.toList.length with h1 | h1
      · exact h1
      · rw [List.drop_eq_nil_of_le h1] at hl; cases hl
    rw [List.drop_eq_getElem_cons hlt] at hl
    injection hl with h1 h2
    have hoL : ops.toList[j]? = some o := by rw [List.getElem?_eq_getElem hlt, h1]
    have ho : ops[j]? = some o := by rw [← Array.getElem?_toList]; exact hoL
    intro out fr' s' e hf
    simp only [evOps] at e
    obtain ⟨⟨out1, fr1⟩, s1, e1, e2⟩ := M.bnd_some e
    have l1 := Mono.evOne P mc ops.toList o fr _ _ _ e1
    have l2 : s1.n ≤ s'.n := by
      cases out1 with
      | norm => exact Mono.evOps P mc ops.toList l fr1 _ _ _ e2
      | exit i => obtain ⟨_, rfl⟩ := M.ret_some e2; exact Nat.le_refl _
      | ret => obtain ⟨_, rfl⟩ := M.ret_some e2; exact Nat.le_refl _
      | panic v => obtain ⟨_, rfl⟩ := M.ret_some e2; exact Nat.le_refl _
    obtain ⟨m1, a1, w1, ex1, st1, f1, p1, o1, r1⟩ := sim_one ok hc mc ho hfr (okOps_spec hopd o (List.mem_of_getElem? hoL)) hp h hG e1 (hf.left l2)
    have hle := st1.ext.le (hf.left l2)
    have hrange : List.range' j (o :: l).length = j :: List.range' (j + 1) l.length := by simp [List.range'_succ]
    by_cases hn : out1 = .norm
    · subst hn
      have := o1.norm
      subst this
      obtain ⟨m2, a2, w2, ex2, st2, f2, p2, o2, r2⟩ := sim_ops ok hc mc hopd l (j + 1) fr1 a1 m1 s1 w1 h2 f1 p1 st1.rel (hG.mono hle) out fr' s' e2 (hf.right st1.ext l1)
      refine ⟨m2, a2, w2, ex2, st1.trans st2 l1 l2, f2, p2, o2, fun b k cs hb hcs => ?_⟩
      rw [hrange]
      exact .of_steps (r1 b k cs _ hcs) (r2 b k cs hb hcs)
    · have e3 : (out, fr') = (out1, fr1) ∧ s' = s1 := by
        cases out1 with
        | norm => exact absurd rfl hn
        | exit i => exact M.ret_some e2
        | ret => exact M.ret_some e2
        | panic v => exact M.ret_some e2
      obtain ⟨e4, rfl⟩ := e3
      cases e4
      refine ⟨m1, a1, w1, ex1, st1, f1, p1, o1, fun b k cs hb hcs => ?_⟩
      rw [hrange]
      exact .pass rfl (fun _ _ => .inl (o1.ne hn)) (r1 b k cs _ hcs)

theorem step_scope {b : Frame} {k : List Item} {cs : List Frame} {body : Code} : step P (lone (b.at a (.code (.scope body) :: k)) cs w) = .next (lone (b.at a (.code body :: .inScope body :: k)) cs w) :=
  step_lone_go (by simp [stepG, stepG.exec, Frame.at])
theorem step_inScope {b : Frame} {k : List Item} {cs : List Frame} {body : Code} : step P (lone (b.at a (.inScope body :: k)) cs w) = .next (lone (b.at a k) cs w) :=
  step_lone_go (by simp [stepG, stepG.exec, Frame.at])

theorem sim_loop {c : Code} {body : Fr → M Ran} (mb : ∀ fr, Mono (body fr)) (hG : Glob P m)
    (hb : ∀ fr a m s w, FrRel m fr a → PanRel m fr.pan fr.recd p' → HRel m s.H w base → Glob P m → SimR P base f p' m s w fr (body fr) fun b k cs => lone (b.at a (.code c :: k)) cs w) :
    ∀ (n : Nat) (fr : Fr) (a : Act) (m : Mp) (s : S) (w : World), FrRel m fr a → PanRel m fr.pan fr.recd p' → HRel m s.H w base → Glob P m → SimR P base f p' m s w fr (evLoop body n fr) fun b k cs => lone (b.at a (.code c :: .inLoop c :: k)) cs w
  | 0, fr, a, m, s, w, _, _, _, _ => fun out fr' s' e _ => (M.fail_some (s := s) e).elim
  | n + 1, fr, a, m, s, w, hfr, hp, h, hG' => by
    refine SimR.bnd (mach1 := fun b k cs => lone (b.at a (.code c :: k)) cs w) (mb fr) (fun r => ?_) (.inLoop c) rfl (hb fr a m s w hfr hp h hG') (fun b k cs => Steps.refl P _) (fun out fr' hn => by cases out <;> first | exact absurd rfl hn | rfl) ?_
    · obtain ⟨out, fr⟩ := r
      cases out <;> first | exact Mono.evLoop mb n fr | exact Mono.ret _
    · intro fr1 s1 m1 a1 w1 hle f1 p1 h1
      exact (sim_loop mb hG hb n fr1 a1 m1 s1 w1 f1 p1 h1 (hG'.mono hle)).steps fun b k cs => .one step_inLoop

theorem sim_code (ok : POk P) (hc : CallOK P base call) (mc : MonoCall call) (lc : LocalCall call) (hfol : P.follows .mixedOrders = true) (lf : Nat) : ∀ (c : Code), okC P c = true → ∀ (fr : Fr) (a : Act) (m : Mp) (s : S) (w : World),
    FrRel m fr a → PanRel m fr.pan fr.recd p' → HRel m s.H w base → Glob P m → SimR P base f p' m s w fr (evC P call lf c fr) fun b k cs => lone (b.at a (.code c :: k)) cs w := by
  intro c
  induction c with
  | skip => exact fun _ fr a m s w hfr hp h _ => SimR.ret (ex := .normal) hfr hp h (fun _ => trivial) fun b k cs => Steps.one step_skip
  | label => exact fun _ fr a m s w hfr hp h _ => SimR.ret (ex := .normal) hfr hp h (fun _ => trivial) fun b k cs => Steps.one step_label
  | region id ops draw =>
    intro hk fr a m s w hfr hp h hG
    simp only [okC, Bool.and_eq_true] at hk
    cases draw with
    | false =>
      refine (sim_ops (f := f) ok hc mc hk.1 ops.toList 0 fr a m s w (by simp) hfr hp h hG).steps fun b k cs => ?_
      have : List.range' 0 ops.toList.length = List.range ops.size := by simp [List.range_eq_range']
      rw [this]
      exact .one step_region
    | true =>
      intro out fr' s' e hf
      exact sim_draw ok hc mc lc hfol (by simpa using hk.2) (okOps_spec hk.1) hfr hp h hG id f e hf
  | seq x y ihx ihy =>
    intro hk fr a m s w hfr hp h hG
    simp only [okC, Bool.and_eq_true] at hk
    refine SimR.bnd (mach1 := fun b k cs => lone (b.at a (.code x :: k)) cs w) (Mono.evC P mc lf x fr) (fun r => ?_) (.code y) rfl (ihx hk.1 fr a m s w hfr hp h hG) (fun b k cs => .one step_seq) (fun out fr' hn => by cases out <;> first | exact absurd rfl hn | rfl) ?_
    · obtain ⟨out, fr⟩ := r
      cases out <;> first | exact Mono.evC P mc lf y fr | exact Mono.ret _
    · intro fr1 s1 m1 a1 w1 hle f1 p1 h1
      exact ihy hk.2 fr1 a1 m1 s1 w1 f1 p1 h1 (hG.mono hle)
  | cond c x y ihx ihy =>
    intro hk fr a m s w hfr hp h hG
    simp only [okC, Bool.and_eq_true] at hk
    have hr := opd_rel hG hfr.tmps c hk.1.1
    simp only [evC]
    split
    · rename_i he
      rw [he] at hr
      exact (ihx hk.1.2 fr a m s w hfr hp h hG).steps fun b k cs => .one (step_cond (t := true) hr.bool_inv)
    · rename_i he
      rw [he] at hr
      exact (ihy hk.2 fr a m s w hfr hp h hG).steps fun b k cs => .one (step_cond (t := false) hr.bool_inv)
    · exact fun out fr' s' e _ => (M.fail_some (s := s) e).elim
  | block id body ih =>
    intro hk fr a m s w hfr hp h hG
    simp only [okC] at hk
    intro out fr' s' e hf
    simp only [evC] at e
    obtain ⟨⟨out1, fr1⟩, s1, e1, e2⟩ := M.bnd_some e
    have l1 := Mono.evC P mc lf body fr _ _ _ e1
    have l2 := Mono.unblock id (out1, fr1) _ _ _ e2
    obtain ⟨m1, a1, w1, ex1, st1, f1, p1, o1, r1⟩ := ih hk fr a m s w hfr hp h hG out1 fr1 s1 e1 (hf.left l2)
    have hs' : s' = s1 := by
      cases out1 with
      | exit i =>
        simp only [unblock] at e2
        cases hi : Nat.beq i id <;> rw [hi] at e2 <;> exact (M.ret_some e2).2
      | _ => exact (M.ret_some e2).2
    subst hs'
    cases out1 with
    | norm =>
      have := o1.norm
      subst this
      obtain ⟨e3, _⟩ := M.ret_some e2
      cases e3
      exact ⟨m1, a1, w1, .normal, st1, f1, p1, o1, fun b k cs hb hcs => .head step_block (Steps.trans (r1 b (.inBlock id :: k) cs hb hcs) (.one step_inBlock))⟩
    | exit i =>
      cases ex1 <;> simp only [OutRel] at o1
      subst o1
      simp only [unblock] at e2
      cases hi : Nat.beq i id with
      | true =>
        rw [hi] at e2
        obtain ⟨e3, _⟩ := M.ret_some e2
        cases e3
        have hi := Nat.eq_of_beq_eq_true hi
        subst hi
        exact ⟨m1, a1, w1, .normal, st1, f1, p1, trivial, fun b k cs hb hcs => .head step_block (r1 b (.inBlock i :: k) cs hb hcs k (by simp [exitTo]))⟩
      | false =>
        rw [hi] at e2
        obtain ⟨e3, _⟩ := M.ret_some e2
        cases e3
        refine ⟨m1, a1, w1, .exit i, st1, f1, p1, rfl, fun b k cs hb hcs k' hk' => .head step_block (r1 b (.inBlock id :: k) cs hb hcs k' ?_)⟩
        have : (id == i) = false := by
          simp only [beq_eq_false_iff_ne, ne_eq]
          intro e; subst e; rw [Nat.beq_refl] at hi; cases hi
        simp [exitTo, this, hk']
    | ret =>
      cases ex1 <;> simp only [OutRel] at o1
      obtain ⟨e3, _⟩ := M.ret_some e2
      cases e3
      exact ⟨m1, a1, w1, .ret, st1, f1, p1, trivial, fun b k cs hb hcs => .of_steps (.one step_block) (r1 b (.inBlock id :: k) cs hb hcs)⟩
    | panic v =>
      cases ex1 <;> simp only [OutRel] at o1
      obtain ⟨e3, _⟩ := M.ret_some e2
      cases e3
      exact ⟨m1, a1, w1, .panic _, st1, f1, p1, o1, fun b k cs hb hcs => .of_steps (.one step_block) (r1 b (.inBlock id :: k) cs hb hcs)⟩
  | loop body ih =>
    intro hk fr a m s w hfr hp h hG
    simp only [okC] at hk
    exact (sim_loop (Mono.evC P mc lf body) hG (fun fr a m s w => ih hk fr a m s w) lf fr a m s w hfr hp h hG).steps fun b k cs => .one step_loop
  | scope body ih =>
    intro hk fr a m s w hfr hp h hG
    simp only [okC] at hk
    intro out fr' s' e hf
    obtain ⟨m1, a1, w1, ex1, st1, f1, p1, o1, r1⟩ := ih hk fr a m s w hfr hp h hG out fr' s' e hf
    refine ⟨m1, a1, w1, ex1, st1, f1, p1, o1, fun b k cs hb hcs => ?_⟩
    have h1 := r1 b (.inScope body :: k) cs hb hcs
    cases ex1 with
    | normal => exact .head step_scope (Steps.trans h1 (.one step_inScope))
    | exit i => exact fun k' hk' => .head step_scope (h1 k' (by simp [exitTo, hk']))
    | goto l => cases out <;> exact o1.elim
    | ret => exact .of_steps (.one step_scope) h1
    | panic ch => exact .of_steps (.one step_scope) h1
    | outgrown => cases out <;> exact o1.elim
  | exit id => exact fun _ fr a m s w hfr hp h _ => SimR.ret (ex := .exit id) hfr hp h (fun _ => rfl) fun b k cs _ hk => Steps.one (step_exit hk)
  | ret => exact fun _ fr a m s w hfr hp h _ => SimR.ret (ex := .ret) hfr hp h (fun _ => trivial) fun b k cs => ⟨_, Steps.one step_ret⟩
  | goto => exact fun _ fr a m s w _ _ _ _ out fr' s' e _ => (M.fail_some (s := s) e).elim
  | rangeFunc => exact fun _ fr a m s w _ _ _ _ out fr' s' e _ => (M.fail_some (s := s) e).elim
  | refuse => exact fun _ fr a m s w _ _ _ _ out fr' s' e _ => (M.fail_some (s := s) e).elim
end
end Go.Shade
