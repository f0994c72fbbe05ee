/- One operation of a region, beside the machine's. Part 2. -/
import Derived.Test.YteailohgaoglnaaGreatDoorShadeU
namespace Go.Shade
open Go.RowKit
set_option linter.unusedVariables false

theorem Step.trans {base : Nat} {m m1 m2 : Mp} {n n1 n2 : Nat} {H1 H2 : Tr AObj} {w w1 w2 : World} (h : Step base m m1 n n1 H1 w w1) (k : Step base m1 m2 n1 n2 H2 w1 w2) (l1 : n ≤ n1) (l2 : n1 ≤ n2) : Step base m m2 n n2 H2 w w2 :=
  ⟨h.ext.trans k.ext l1 l2, k.rel, h.below.trans k.below⟩

theorem VRel.put {m : Mp} {T : Tr Value} {t : Array Value} {d : Nat} {v v' : Value} (h : TRel m T t) (hd : d < t.size) (hv : VRel m v v') : TRel m (T.set d v) (t.setIfInBounds d v') := by
  intro i
  unfold tmpOf
  by_cases hi : i = d
  · subst hi
    rw [Tr.get_set_eq]
    simpa [hd] using hv
  · rw [Tr.get_set_ne _ _ hi]
    have := h i
    unfold tmpOf at this
    simpa [Array.getElem?_setIfInBounds_ne (Ne.symm hi)] using this

theorem FrRel.put {m : Mp} {fr fr' : Fr} {a : Act} {dst : Option Tmp} {v v' : Value} (h : FrRel m fr a) (hp : fr.put dst v = some fr') (hv : VRel m v v') : FrRel m fr' (a.put dst v') ∧ fr'.pan = fr.pan ∧ fr'.recd = fr.recd := by
  obtain ⟨T, nt, defs, pan, recd⟩ := fr
  cases dst with
  | none => simp only [Fr.put, Option.some.injEq] at hp; subst hp; exact ⟨h, rfl, rfl⟩
  | some d =>
    simp only [Fr.put] at hp
    cases hb : Nat.blt d nt with
    | false => simp [hb] at hp
    | true =>
      simp only [hb, Option.some.injEq] at hp
      subst hp
      rw [Nat.blt_eq] at hb
      have hs := h.size
      simp only [] at hs
      exact ⟨⟨VRel.put h.tmps (by omega) hv, by simpa [Act.put] using hs, h.defs⟩, rfl, rfl⟩

def OutRel (m : Mp) : Out → Exit → Prop
  | .norm, .normal => True
  | .exit i, .exit j => i = j
  | .ret, .ret => True
  | .panic v, .panic ch => ∃ v', ch = [{ v := v', recovered := false }] ∧ VRel m v v'
  | _, _ => False

section
variable {P : Program} {base : Nat} {m : Mp} {s : S} {w : World} {call : CallSem}

/-- An operation of a region that draws. -/
theorem sim_val (ok : POk P) (hc : CallOK P base call) (mc : MonoCall call) {ops : Array Oper} {i : Nat} {o : Oper} (ho : ops[i]? = some o) {fr : Fr} {a : Act} (hρ : ∀ x ∈ o.op.operands.toList, VRel m (evOpd fr.tmps x) (a.eval x))
    (hg : wantedF ops.toList o.guard fr.tmps = Region.wanted o (yielded ops a.tmps)) (h : HRel m s.H w base) (hG : Glob P m) {v : Value} {s' : S} (e : evVal P call ops.toList o fr s = some (v, s')) (hf : Fresh m s.n s'.n) :
    ∃ m' v' w', Step base m m' s.n s'.n s'.H w w' ∧ VRel m' v v' ∧ ∀ (b : Frame) (k : List Item) (cs : List Frame) (rest : List Nat), Steps P (lone (b.at a (.inRegion ops (i :: rest) :: k)) cs w) (lone (b.at (a.put o.dst v') (.inRegion ops rest :: k)) cs w') := by
  unfold evVal at e
  cases hw : wantedF ops.toList o.guard fr.tmps with
  | false =>
    rw [hw] at e
    obtain ⟨rfl, rfl⟩ := M.ret_some e
    refine ⟨m, undef, w, Step.refl h, undef_rel m, fun b k cs rest => .one ?_⟩
    have := step_op_skip (P := P) (b := b) (a := a) (k := k) (cs := cs) (w := w) (ops := ops) (i := i) (rest := rest) (by simp [ho, ← hg, hw])
    rw [this, ho]; rfl
  | true =>
    rw [hw] at e hg
    simp only [] at e
    obtain ⟨r, s1, e1, e2⟩ := M.bnd_some e
    have l1 := Mono.evOp P (evOpd fr.tmps) o.op _ _ _ e1
    have l2 := Mono.valOf mc r _ _ _ e2
    obtain ⟨m1, w1, st1, out⟩ := sim_op ok h o hρ r s1 e1 (hf.left l2)
    cases r with
    | val u =>
      obtain ⟨rfl, rfl⟩ := M.ret_some e2
      rcases out with ⟨v', hr, hv⟩ | ⟨hr, rfl⟩
      · exact ⟨m1, v', w1, st1, hv, fun b k cs rest => .one (op_value ho hg.symm hr)⟩
      · exact ⟨m1, undef, w1, st1, undef_rel _, fun b k cs rest => .one (op_skip ho hg.symm hr)⟩
    | enter f args =>
      obtain ⟨c, s2, e3, e4⟩ := M.bnd_some e2
      cases c with
      | panic p => exact (M.fail_some (s := s2) e4).elim
      | ret u recd =>
        obtain ⟨rfl, rfl⟩ := M.ret_some e4
        have hle := st1.ext.le (hf.left l2)
        obtain ⟨fn, c, h1, h2, h3⟩ := hc.code _ _ _ _ _ e3
        obtain ⟨args', hr, ha⟩ := out fn h1 (by simp [h2]) h3
        obtain ⟨m2, w2, st2, v', hv, _, hrun⟩ := hc.run f args none _ _ _ _ _ args' none e3 (hf.right st1.ext l1) st1.rel (hG.mono hle) ha (.inl ⟨rfl, rfl, rfl⟩)
        refine ⟨m2, v', w2, st1.trans st2 l1 l2, hv, fun b k cs rest => ?_⟩
        obtain ⟨fr', hs, k1, k2, k3, k4, fn', k5, k6⟩ := hrun .normal (b.at a (.inRegion ops (i :: rest) :: k) :: cs) (.inl ⟨rfl, rfl⟩)
        refine .head (op_enter ho hg.symm hr) (.trans hs (.one ?_))
        rw [← fin_at ho]
        have hcs : csOf none recd (b.at a (.inRegion ops (i :: rest) :: k) :: cs) = b.at a (.inRegion ops (i :: rest) :: k) :: cs := by cases recd <;> rfl
        rw [hcs]
        exact step_leave_returned ⟨k3, k4, k2, fn', by rw [k1]; exact k5, k6⟩
    | panic u => exact (M.fail_some (s := s1) e2).elim
    | defer f args => exact (M.fail_some (s := s1) e2).elim
    | recover => exact (M.fail_some (s := s1) e2).elim

/-- An operation of a region in order. -/
theorem sim_one (ok : POk P) (hc : CallOK P base call) (mc : MonoCall call) {ops : Array Oper} {i : Nat} {o : Oper} (ho : ops[i]? = some o) {fr : Fr} {a : Act} (hfr : FrRel m fr a) (hopd : ∀ x ∈ o.op.operands.toList, okOpd P x = true)
    {p' : Option Value} (hp : PanRel m fr.pan fr.recd p') (h : HRel m s.H w base) (hG : Glob P m) {out : Out} {fr' : Fr} {s' : S} (e : evOne P call ops.toList o fr s = some ((out, fr'), s')) (hf : Fresh m s.n s'.n) :
    ∃ m' a' w' ex, Step base m m' s.n s'.n s'.H w w' ∧ FrRel m' fr' a' ∧ PanRel m' fr'.pan fr'.recd p' ∧ OutRel m' out ex ∧
      ∀ (b : Frame) (k : List Item) (cs : List Frame) (rest : List Nat), CsOk b.kind p' cs → Arrives P (lone (b.at a (.inRegion ops (i :: rest) :: k)) (csOf p' fr.recd cs) w) b (.inRegion ops rest :: k) (csOf p' fr'.recd cs) ex a' w' := by
  have hg : wantedF ops.toList o.guard fr.tmps = Region.wanted o (yielded ops a.tmps) := wanted_rel fun j want d _ _ => hfr.tmps d
  have hρ : ∀ x ∈ o.op.operands.toList, VRel m (evOpd fr.tmps x) (a.eval x) := fun x hx => opd_rel hG hfr.tmps x (hopd x hx)
  -- a value put, and on
  have norm : ∀ {fr0 : Fr} {m1 : Mp} {w1 : World} {v v' : Value} {q : Option Fr} {s1 : S}, FrRel m1 fr0 a → PanRel m1 fr0.pan fr0.recd p' → fr0.recd = fr.recd → normed (fr0.put o.dst v) s1 = some ((out, fr'), s') → Step base m m1 s.n s1.n s1.H w w1 → VRel m1 v v' →
      (∀ (b : Frame) (k : List Item) (cs : List Frame) (rest : List Nat), CsOk b.kind p' cs → Steps P (lone (b.at a (.inRegion ops (i :: rest) :: k)) (csOf p' fr.recd cs) w) (lone (b.at (a.put o.dst v') (.inRegion ops rest :: k)) (csOf p' fr.recd cs) w1)) →
      ∃ m' a' w' ex, Step base m m' s.n s'.n s'.H w w' ∧ FrRel m' fr' a' ∧ PanRel m' fr'.pan fr'.recd p' ∧ OutRel m' out ex ∧
        ∀ (b : Frame) (k : List Item) (cs : List Frame) (rest : List Nat), CsOk b.kind p' cs → Arrives P (lone (b.at a (.inRegion ops (i :: rest) :: k)) (csOf p' fr.recd cs) w) b (.inRegion ops rest :: k) (csOf p' fr'.recd cs) ex a' w' := by
    intro fr0 m1 w1 v v' q s1 h0 hp0 hrec en st hv hs
    unfold normed at en
    cases hq : fr0.put o.dst v with
    | none => rw [hq] at en; exact (M.fail_some (s := s1) en).elim
    | some fr1 =>
      rw [hq] at en
      obtain ⟨e1, rfl⟩ := M.ret_some en
      cases e1
      obtain ⟨g1, g2, g3⟩ := h0.put hq hv
      refine ⟨m1, a.put o.dst v', w1, .normal, st, g1, by rw [g2, g3]; exact hp0, trivial, fun b k cs rest hcs => ?_⟩
      rw [g3, hrec]
      exact hs b k _ rest hcs
  unfold evOne at e
  cases hw : wantedF ops.toList o.guard fr.tmps with
  | false =>
    rw [hw] at e
    refine norm (q := none) hfr hp rfl e (Step.refl h) (undef_rel m) fun b k cs rest _ => .one ?_
    have := step_op_skip (P := P) (b := b) (a := a) (k := k) (cs := csOf p' fr.recd cs) (w := w) (ops := ops) (i := i) (rest := rest) (by simp [ho, ← hg, hw])
    rw [this, ho]; rfl
  | true =>
    rw [hw] at e hg
    simp only [] at e
    obtain ⟨r, s1, e1, e2⟩ := M.bnd_some e
    have l1 := Mono.evOp P (evOpd fr.tmps) o.op _ _ _ e1
    have l2 := Mono.after mc o.dst fr r _ _ _ e2
    obtain ⟨m1, w1, st1, res⟩ := sim_op ok h o hρ r s1 e1 (hf.left l2)
    have hle := st1.ext.le (hf.left l2)
    cases r with
    | val u =>
      rcases res with ⟨v', hr, hv⟩ | ⟨hr, rfl⟩
      · exact norm (q := none) (hfr.mono hle) (hp.mono hle) rfl e2 st1 hv fun b k cs rest _ => .one (op_value ho hg.symm hr)
      · exact norm (q := none) (hfr.mono hle) (hp.mono hle) rfl e2 st1 (undef_rel _) fun b k cs rest _ => .one (op_skip ho hg.symm hr)
    | enter f args =>
      obtain ⟨c, s2, e3, e4⟩ := M.bnd_some e2
      have l3 := mc _ _ _ _ _ _ e3
      have l4 := Mono.called fr o.dst c _ _ _ e4
      obtain ⟨fn, body, h1, h2, h3⟩ := hc.code _ _ _ _ _ e3
      obtain ⟨args', hr, ha⟩ := res fn h1 (by simp [h2]) h3
      have hf2 : Fresh m1 s1.n s2.n := (hf.right st1.ext l1).left l4
      obtain ⟨m2, w2, st2, hrun⟩ := hc.run f args none _ _ _ _ _ args' none e3 hf2 st1.rel (hG.mono hle) ha (.inl ⟨rfl, rfl, rfl⟩)
      have hle2 := hle.trans (st2.ext.le hf2)
      cases c with
      | ret u recd =>
        obtain ⟨v', hv, _, hrun⟩ := hrun
        refine norm (q := none) (hfr.mono hle2) (hp.mono hle2) rfl e4 (st1.trans st2 l1 l3) hv fun b k cs rest _ => ?_
        obtain ⟨fr', hs, k1, k2, k3, k4, fn', k5, k6⟩ := hrun .normal (b.at a (.inRegion ops (i :: rest) :: k) :: csOf p' fr.recd cs) (.inl ⟨rfl, rfl⟩)
        refine .head (op_enter ho hg.symm hr) (.trans hs (.one ?_))
        rw [← fin_at ho]
        have hcs : csOf none recd (b.at a (.inRegion ops (i :: rest) :: k) :: csOf p' fr.recd cs) = b.at a (.inRegion ops (i :: rest) :: k) :: csOf p' fr.recd cs := by cases recd <;> rfl
        rw [hcs]
        exact step_leave_returned ⟨k3, k4, k2, fn', by rw [k1]; exact k5, k6⟩
      | panic u =>
        obtain ⟨v', hv, hrun⟩ := hrun rfl
        obtain ⟨e5, rfl⟩ := M.ret_some e4
        cases e5
        refine ⟨m2, a, w2, .panic _, st1.trans st2 l1 l3, hfr.mono hle2, hp.mono hle2, ⟨v', rfl, hv⟩, fun b k cs rest _ => ⟨.inRegion ops (i :: rest) :: k, ?_⟩⟩
        obtain ⟨fr2, hs, k1, k2, k3, fn', k4⟩ := hrun (b.at a (.inRegion ops (i :: rest) :: k) :: csOf p' fr.recd cs)
        refine .head (op_enter ho hg.symm hr) (.trans hs (.one ?_))
        rw [← Frame.raise_at]
        exact step_leave_panicked ⟨k2, k3, fn', by rw [k1]; exact k4⟩
    | panic u =>
      obtain ⟨v', hr, hv⟩ := res
      obtain ⟨e5, rfl⟩ := M.ret_some e2
      cases e5
      exact ⟨m1, a, w1, .panic _, st1, hfr.mono hle, hp.mono hle, ⟨v', rfl, hv⟩, fun b k cs rest _ => ⟨.inRegion ops (i :: rest) :: k, .one (op_panic ho hg.symm hr)⟩⟩
    | defer f args =>
      obtain ⟨c, as, hr, hv⟩ := res
      simp only [after, laidBy] at e2
      obtain ⟨T, nt, defs, pan, recd⟩ := fr
      simp only [] at e2
      unfold normed at e2
      cases hq : Fr.put ⟨T, nt, (f, args) :: defs, pan, recd⟩ o.dst undefV with
      | none => rw [hq] at e2; exact (M.fail_some (s := s1) e2).elim
      | some fr1 =>
        rw [hq] at e2
        obtain ⟨e5, rfl⟩ := M.ret_some e2
        cases e5
        have h0 := hfr.mono hle
        have h1 : FrRel m1 ⟨T, nt, (f, args) :: defs, pan, recd⟩ { a with defers := { target := .fn (.func f) c, args := as } :: a.defers } := ⟨h0.tmps, h0.size, .cons hv h0.defs⟩
        obtain ⟨g1, g2, g3⟩ := h1.put hq (undef_rel m1)
        refine ⟨m1, _, w1, .normal, st1, g1, by rw [g2, g3]; exact hp.mono hle, trivial, fun b k cs rest _ => ?_⟩
        rw [g3]
        exact .one (op_defer ho hg.symm hr)
    | recover =>
      have hr : (execOp a.eval o).run P w = .ok .recover w1 := res
      obtain ⟨T, nt, defs, pan, recd⟩ := fr
      rcases hp with ⟨hp1, hp2, hp3⟩ | ⟨v, v', hp1, hp2, hp3, hp4⟩ | ⟨hp1, hp2, v', hp3⟩
      · simp only [] at hp1 hp2
        subst hp1 hp2 hp3
        refine norm (q := none) (hfr.mono hle) (.inl ⟨rfl, rfl, rfl⟩) rfl e2 st1 (v' := .nilIface) (.atom rfl) fun b k cs rest hcs => .one (op_recover_none ho hg.symm hr ?_)
        rcases hcs with ⟨hk, _⟩ | ⟨hk, c, rst, rfl, hm⟩
        · exact .inl hk
        · refine .inr ⟨hk, ?_⟩
          simp [csOf, recoverD, hm, modeOf]
      · simp only [] at hp1 hp2
        subst hp1 hp2 hp3
        simp only [after, seen] at e2
        unfold normed at e2
        cases hq : Fr.put ⟨T, nt, defs, none, true⟩ o.dst v with
        | none => rw [hq] at e2; exact (M.fail_some (s := s1) e2).elim
        | some fr1 =>
          rw [hq] at e2
          obtain ⟨e5, rfl⟩ := M.ret_some e2
          cases e5
          have h0 := hfr.mono hle
          have h1 : FrRel m1 ⟨T, nt, defs, none, true⟩ a := ⟨h0.tmps, h0.size, h0.defs⟩
          obtain ⟨g1, g2, g3⟩ := h1.put hq (hp4.mono hle)
          refine ⟨m1, _, w1, .normal, st1, g1, by rw [g2, g3]; exact .inr (.inr ⟨rfl, rfl, v', rfl⟩), trivial, fun b k cs rest hcs => ?_⟩
          rw [g3]
          rcases hcs with ⟨_, hcs⟩ | ⟨hk, c, rst, rfl, hm⟩
          · cases hcs
          · refine .one ?_
            rw [op_recover_some (v := v') (cs' := csOf (some v') true (c :: rst)) ho hg.symm hr hk ?_]
            simp only [csOf, recoverD, hm, modeOf]
      · simp only [] at hp1 hp2
        subst hp1 hp2 hp3
        refine norm (q := none) (hfr.mono hle) (.inr (.inr ⟨rfl, rfl, v', rfl⟩)) rfl e2 st1 (v' := .nilIface) (.atom rfl) fun b k cs rest hcs => .one (op_recover_none ho hg.symm hr ?_)
        rcases hcs with ⟨hk, _⟩ | ⟨hk, c, rst, rfl, hm⟩
        · exact .inl hk
        · refine .inr ⟨hk, ?_⟩
          simp [csOf, recoverD, hm, modeOf]
end
end Go.Shade
