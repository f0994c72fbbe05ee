/- The evaluator's operations beside the model's. Part 7: copy, len, min, max, clear, what is ranged over, maps. -/
import Derived.Test.YteailohgaoglnaaGreatDoorShadeP
import Derived.MapKept
namespace Go.Shade
open Go.RowKit
set_option linter.unusedVariables false

section
variable {P : Program} {base : Nat} {m : Mp} {s : S} {w : World}

theorem run_getO {r : Nat} {o : Obj} (hb : w.heap[r]? = some o) (ho : ∀ c e fz, o ≠ .cells c e fz := by simp) : (getObj r).run P w = .ok o w := by
  cases o <;> first | exact absurd rfl (ho _ _ _) | simp [getObj, Sem.run, hb]
theorem run_setO {r : Nat} {o : Obj} (o' : Obj) (hb : w.heap[r]? = some o) (ho : ∀ c e fz, o ≠ .cells c e fz := by simp) : (setObj r o').run P w = .ok () (putObj w r o') := by
  cases o <;> first | exact absurd rfl (ho _ _ _) | simp [setObj, Sem.run, hb, putObj]

theorem HRel.map_at {H : Tr AObj} (h : HRel m H w base) {r : Nat} {es : List (Value × Value)} (hr : H.get r = some (.map es)) {l : Lc} (hl : m r = some l) :
    ∃ ces clock, base ≤ l.cb ∧ w.heap[l.cb]? = some (.map ces clock) ∧ ces.size = es.length ∧ ∀ (i : Nat) (p : Value × Value), es[i]? = some p → ∃ q : MapEntry, ces[i]? = some q ∧ VRel m p.1 q.key ∧ VRel m p.2 q.val := by
  obtain ⟨k, ces, clock, h1, h2, h3, h4, h5⟩ := h.map _ _ hr
  rw [hl] at h1; cases h1
  exact ⟨ces, clock, h2, h3, h4, h5⟩

theorem getMap_some {r n : Nat} {H : Tr AObj} {lim : Nat} {log : List Acc} {es : List (Value × Value)} {s' : S} (e : getMap r ⟨n, H, lim, log⟩ = some (es, s')) :
    H.get r = some (.map es) ∧ s' = ⟨n, H, lim, note r lim log false⟩ := by
  obtain ⟨x, hx, hh⟩ := touch_some e
  cases x with
  | map es' =>
    rcases hh with ⟨hh, hs⟩ | ⟨y, hh, hs⟩ <;> simp only [Option.some.injEq, Prod.mk.injEq] at hh
    · obtain ⟨rfl, _⟩ := hh; exact ⟨hx, hs⟩
    · cases hh.2
  | _ => rcases hh with ⟨hh, hs⟩ | ⟨y, hh, hs⟩ <;> simp at hh
theorem setMap_some {r n : Nat} {H : Tr AObj} {lim : Nat} {log : List Acc} {es : List (Value × Value)} {u : Unit} {s' : S} (e : setMap r es ⟨n, H, lim, log⟩ = some (u, s')) :
    (∃ es0, H.get r = some (.map es0)) ∧ s' = ⟨n, H.set r (.map es), lim, note r lim log true⟩ := by
  obtain ⟨x, hx, hh⟩ := touch_some e
  cases x with
  | map es' =>
    rcases hh with ⟨hh, hs⟩ | ⟨y, hh, hs⟩ <;> simp only [Option.some.injEq, Prod.mk.injEq] at hh
    · cases hh.2
    · obtain ⟨_, rfl⟩ := hh; exact ⟨⟨_, hx⟩, hs⟩
  | _ => rcases hh with ⟨hh, hs⟩ | ⟨y, hh, hs⟩ <;> simp at hh

theorem VRel.map_inv {r : Nat} {v' : Value} (h : VRel m (.map (some r)) v') : ∃ l, m r = some l ∧ v' = .map (some l.cb) := by
  cases h with
  | atom q => simp [atomic] at q
  | map hm => exact ⟨_, hm, rfl⟩
theorem VRel.mapNil_inv {v' : Value} (h : VRel m (.map none) v') : v' = .map none := by cases h; rfl

theorem sim_copy (h : HRel m s.H w base) {ats : Array TypeId} {t : TypeId} (ty : TypeId) (h0 : ats[0]? = some t) {d x d' x' : Value} (hd : VRel m d d') (hx : VRel m x x') :
    Sim P base m s w (copyV P t d x) (Builtin.copy_ ats ty #[d', x']) VRel := by
  unfold copyV
  split
  · rename_i e a dLen c n ht hn
    cases hk : sizeOf' P e with
    | none => exact Sim.fail
    | some k =>
      simp only []
      obtain ⟨a', c', rfl⟩ := hd.slice_inv
      obtain ⟨hlen, _⟩ := lenV_some (P := P) hn hx
      intro v s' ex hf
      obtain ⟨cs, s1, e1, e2⟩ := M.bnd_some ex
      obtain ⟨log1, arr, rfl, n1, n2, _⟩ := rd_rdSlice (P := P) h k _ hx e1
      have hrun : ∀ w', (match a' with | some a => storeCells a arr.toList | none => pure ()).run P w = .ok () w' → (Builtin.copy_ ats ty #[.slice a' dLen c', x']).run P w = .ok (goInt (Nat.min n dLen)) w' := by
        intro w' hw
        cases a' with
        | none => simp only [Sem.run_pure, Result.ok.injEq, true_and] at hw; subst hw; simp [Builtin.copy_, h0, run_under ht, hlen, run_sizeOf hk, n1 w rfl]
        | some a' => simp [Builtin.copy_, h0, run_under ht, hlen, run_sizeOf hk, n1 w rfl, hw]
      unfold copyRow at e2
      split at e2
      · obtain ⟨e3, rfl⟩ := M.opt_some e2
        rw [mkInt_eq] at e3; cases e3
        refine ⟨m, _, w, hrun w ?_, ⟨Ext.refl _ _ _, h, Below.refl _ _⟩, .atom rfl⟩
        have hem : arr.toList = [] := by have := n2.length; exact List.length_eq_zero_iff.1 this.symm
        cases a' with
        | none => rfl
        | some a' => simp only [hem]; rfl
      · rename_i b i _
        obtain ⟨u, s2, e3, e4⟩ := M.bnd_some e2
        obtain ⟨e5, rfl⟩ := M.opt_some e4
        rw [mkInt_eq] at e5; cases e5
        have fin : ∀ l, m b = some l → a' = some ⟨l.cb, l.off + i, none⟩ → ∃ m' b_1 w', (Builtin.copy_ ats ty #[.slice a' dLen c', x']).run P w = .ok b_1 w' ∧ Step base m m' s.n s'.n s'.H w w' ∧ VRel m' (.int .i64 (Nat.min n dLen)) b_1 := by
          intro l hm ea
          have hsim := sim_wrRow (P := P) (s := ⟨s.n, s.H, s.lim, log1⟩) h (b := b) (i := i) hm n2
          obtain ⟨m', u1, w', r1, st, _⟩ := hsim _ _ e3 hf
          refine ⟨m', _, w', hrun w' ?_, st, .atom rfl⟩
          rw [ea]; exact r1
        cases hd with
        | atom q => simp [atomic] at q
        | sliceE hm => exact fin _ hm rfl
        | sliceI hm _ _ _ _ => exact fin _ hm rfl
      · exact (M.fail_some e2).elim
  · exact Sim.fail

theorem sim_len (h : HRel m s.H w base) {ats : Array TypeId} {t : TypeId} (ty : TypeId) (h0 : ats[0]? = some t) {x x' : Value} (hx : VRel m x x') :
    Sim P base m s w (lenB P t x) (Builtin.len_ ats ty #[x']) VRel := by
  unfold lenB
  split
  · rename_i str hu
    cases hx.string_inv
    exact Sim.opt h fun v hv => by rw [mkInt_eq] at hv; cases hv; exact ⟨_, by simp [Builtin.len_, h0, run_under hu]; rfl, .atom rfl⟩
  · rename_i n e hu
    refine Sim.opt h fun v hv => ?_
    rw [mkInt_eq] at hv; cases hv
    exact ⟨goInt n, by simp [Builtin.len_, h0, run_under hu], .atom rfl⟩
  · rename_i e a n c hu
    obtain ⟨a', c', rfl⟩ := hx.slice_inv
    refine Sim.opt h fun v hv => ?_
    rw [mkInt_eq] at hv; cases hv
    exact ⟨goInt n, by simp [Builtin.len_, h0, run_under hu], .atom rfl⟩
  · rename_i k e hu
    cases hx.mapNil_inv
    exact Sim.run (y := pure (goInt 0)) (Sim.ret h (.atom rfl)) (by simp [Builtin.len_, h0, run_under hu])
  · rename_i k e r hu
    obtain ⟨l, hm, rfl⟩ := hx.map_inv
    intro v s' ex hf
    obtain ⟨es, s1, e1, e2⟩ := M.bnd_some ex
    obtain ⟨e3, rfl⟩ := M.opt_some e2
    rw [mkInt_eq] at e3; cases e3
    obtain ⟨hr, rfl⟩ := getMap_some (n := s.n) (H := s.H) (lim := s.lim) (log := s.log) e1
    obtain ⟨ces, clock, g1, g2, g3, g4⟩ := h.map_at hr hm
    refine ⟨m, goInt ces.size, w, by simp [Builtin.len_, h0, run_under hu, run_getO g2], ⟨Ext.refl _ _ _, h, Below.refl _ _⟩, ?_⟩
    rw [g3]; exact .atom rfl
  · exact Sim.fail

theorem foldV_run {f : Value → Value → Option Value} {g : Value → Value → Sem Value} (hfg : ∀ x y v x' y', f x y = some v → VRel m x x' → VRel m y y' → (g x' y').run P w = .ok v w ∧ VRel m v v) :
    ∀ (l l' : List Value) (x x' v : Value), foldV f x l = some v → VRelL m l l' → VRel m x x' → ∃ v', (l'.foldlM g x').run P w = .ok v' w ∧ VRel m v v'
  | [], l', x, x', v, e, hl, hx => by
    cases hl
    simp only [foldV, Option.some.injEq] at e
    subst e
    exact ⟨x', rfl, hx⟩
  | y :: l, _, x, x', v, e, .cons hy hl, hx => by
    simp only [foldV] at e
    cases hq : f x y with
    | none => simp [hq] at e
    | some z =>
      simp only [hq] at e
      obtain ⟨h1, h2⟩ := hfg _ _ _ _ _ hq hx hy
      obtain ⟨v', g1, g2⟩ := foldV_run hfg l _ z z v e hl h2
      exact ⟨v', by rw [List.foldlM_cons, Sem.run_bind, h1]; exact g1, g2⟩

theorem sim_max (h : HRel m s.H w base) (ats : Array TypeId) (ty : TypeId) {x x' : Value} {l l' : List Value} (hx : VRel m x x') (hl : VRelL m l l') :
    Sim P base m s w (M.opt (foldV max2 x l)) (Builtin.max_ ats ty (x' :: l').toArray) VRel := by
  refine Sim.opt h fun v hv => ?_
  refine foldV_run (P := P) (g := Builtin.max2) ?_ l l' x x' v hv hl hx
  intro x y v x' y' e hx hy
  unfold max2 at e
  split at e
  · cases hx.int_inv; cases hy.int_inv
    cases e
    refine ⟨?_, .atom rfl⟩
    simp only [Builtin.max2, Sem.run_pure]
    congr 2
    split <;> rename_i hlt <;> simp [hlt]
  · cases e
theorem sim_min (h : HRel m s.H w base) (ats : Array TypeId) (ty : TypeId) {x x' : Value} {l l' : List Value} (hx : VRel m x x') (hl : VRelL m l l') :
    Sim P base m s w (M.opt (foldV min2 x l)) (Builtin.min_ ats ty (x' :: l').toArray) VRel := by
  refine Sim.opt h fun v hv => ?_
  refine foldV_run (P := P) (g := Builtin.min2) ?_ l l' x x' v hv hl hx
  intro x y v x' y' e hx hy
  unfold min2 at e
  split at e
  · cases hx.int_inv; cases hy.int_inv
    cases e
    refine ⟨?_, .atom rfl⟩
    simp only [Builtin.min2, Sem.run_pure]
    congr 2
    split <;> rename_i hlt <;> simp [hlt]
  · cases e

theorem zeroCells_rel (ok : POk P) {e : TypeId} {z : Value} (hz : zero' P e = some z) (n : Nat) : VRelL m (zeros (cellsOf z) n) (Builtin.zeroCells z.cells n).toList := by
  have := zeros_eq z.cells n
  unfold Builtin.zeroCells
  rw [this, cells_cellsOf]
  exact zeros_rel (by have := (closed_rel m _ _ (ok.zero _ _ hz)).cells; rwa [cells_cellsOf] at this) n

theorem sim_clear (ok : POk P) (h : HRel m s.H w base) {ats : Array TypeId} {t : TypeId} (ty : TypeId) (h0 : ats[0]? = some t) {x x' : Value} (hx : VRel m x x') :
    Sim P base m s w (clearB P t x) (Builtin.clear_ ats ty #[x']) VRel := by
  unfold clearB
  split
  · rename_i k e hu
    cases hx.mapNil_inv
    exact Sim.run (y := pure (.tuple #[])) (Sim.ret h (.tuple .nil)) (by simp [Builtin.clear_, h0, run_under hu])
  · rename_i k e r hu
    obtain ⟨l, hm, rfl⟩ := hx.map_inv
    intro v s' ex hf
    obtain ⟨u, s1, e1, e2⟩ := M.bnd_some ex
    obtain ⟨rfl, rfl⟩ := M.ret_some e2
    obtain ⟨⟨es, hr⟩, rfl⟩ := setMap_some (n := s.n) (H := s.H) (lim := s.lim) (log := s.log) e1
    obtain ⟨ces, clock, g1, g2, g3, g4⟩ := h.map_at hr hm
    refine ⟨m, .tuple #[], putObj w l.cb (.map #[] clock), by simp [Builtin.clear_, h0, run_under hu, run_getO g2, run_setO _ g2], ⟨Ext.refl _ _ _, ?_, putObj_below _ _ _ _ g1⟩, .tuple .nil⟩
    exact h.turn hr hm g1 (.inr ⟨_, rfl⟩) (.inr ⟨[], #[], clock, rfl, rfl, rfl, by simp⟩)
  · rename_i e a b hu
    obtain ⟨a', c', rfl⟩ := hx.slice_inv
    cases hx with
    | atom q => simp [atomic] at q
    | nilSlice => exact Sim.run (y := pure (.tuple #[])) (Sim.ret h (.tuple .nil)) (by simp [Builtin.clear_, h0, run_under hu])
  · rename_i e a b c hu
    obtain ⟨a', c', rfl⟩ := hx.slice_inv
    exact Sim.run (y := pure (.tuple #[])) (Sim.ret h (.tuple .nil)) (by cases a' <;> simp [Builtin.clear_, h0, run_under hu])
  · rename_i e b i n c hn hu
    obtain ⟨a', c', rfl⟩ := hx.slice_inv
    split
    · rename_i z hz
      intro v s' ex hf
      obtain ⟨u, s1, e1, e2⟩ := M.bnd_some ex
      obtain ⟨rfl, rfl⟩ := M.ret_some e2
      have fin : ∀ l, m b = some l → a' = some ⟨l.cb, l.off + i, none⟩ → ∃ m' b_1 w', (Builtin.clear_ ats ty #[.slice a' n c']).run P w = .ok b_1 w' ∧ Step base m m' s.n s'.n s'.H w w' ∧ VRel m' undefV b_1 := by
        intro l hm ea
        obtain ⟨m', u1, w', r1, st, _⟩ := sim_wrRow (P := P) h (b := b) (i := i) hm (zeroCells_rel ok hz n) _ _ e1 hf
        refine ⟨m', .tuple #[], w', ?_, st, .tuple .nil⟩
        subst ea
        cases n with
        | zero => exact absurd rfl hn
        | succ n => simp [Builtin.clear_, h0, run_under hu, run_zero hz, r1]
      cases hx with
      | atom q => simp [atomic] at q
      | sliceE hm => exact fin _ hm rfl
      | sliceI hm _ _ _ _ => exact fin _ hm rfl
    · exact Sim.fail
  · exact Sim.fail

theorem newObj_some {o : AObj} {n : Nat} {H : Tr AObj} {lim : Nat} {log : List Acc} {b : Nat} {s' : S} (e : newObj o ⟨n, H, lim, log⟩ = some (b, s')) :
    b = n ∧ s' = ⟨n + 1, H.set n o, lim, log⟩ := by
  simp only [newObj, force_eq, Option.some.injEq, Prod.mk.injEq] at e
  exact ⟨e.1.symm, e.2.symm⟩

/-- A new object that is no row. -/
theorem HRel.new1 {H : Tr AObj} (h : HRel m H w base) {n : Nat} (hn : m n = none) {o : AObj} {o' : Obj} (hd : o ≠ .dead)
    (hi : ∀ s p, o = .iter s p → o' = .stringIter s p) (hc : ∀ cs rw old esz, o ≠ .cells cs rw old esz)
    (hm : ∀ es, o = .map es → es = [] ∧ ∃ clock, o' = .map #[] clock) :
    HRel (upd m n ⟨w.heap.size, 0, 0, 0⟩) (H.set n o) { w with heap := w.heap.push o' } base := by
  have hne : ∀ a, liveIn H a → ∀ k, m a = some k → k.cb < w.heap.size := by
    intro a ha k hk
    obtain ⟨k', h1, h2⟩ := h.live_lt ha
    rw [hk] at h1; cases h1; exact h2
  refine h.new hn (by simp; have := h.bs; omega) ?_ hd ?_ ?_ ?_ ?_ ?_ ?_
  · intro a ha k hk
    left
    rw [Array.getElem?_push, if_neg (by have := hne a ha k hk; omega)]
  · intro cs rw old esz e; exact absurd e (hc _ _ _ _)
  · intro s p e; exact ⟨rfl, h.bs, by simp [hi _ _ e]⟩
  · intro es e
    obtain ⟨rfl, clock, e2⟩ := hm _ e
    exact ⟨#[], clock, h.bs, by simp [e2], rfl, by simp⟩
  · intro a k ha hk hcb
    have := hne a ha k hk
    exact absurd hcb (by simp; omega)
  · intro cs rw old esz e; exact absurd e (hc _ _ _ _)
  · intro cs rw old esz e; exact absurd e (hc _ _ _ _)

theorem sim_makeMap (h : HRel m s.H w base) (t : TypeId) : Sim P base m s w opMakeMap (Instr.makeMap t none) VR := by
  intro v s' ex hf
  obtain ⟨b, s1, e1, e2⟩ := M.bnd_some ex
  obtain ⟨rfl, rfl⟩ := M.ret_some e2
  obtain ⟨rfl, rfl⟩ := newObj_some (n := s.n) (H := s.H) (lim := s.lim) (log := s.log) e1
  have hn : m s.n = none := hf _ (Nat.le_refl _) (Nat.lt_succ_self _)
  refine ⟨upd m s.n ⟨w.heap.size, 0, 0, 0⟩, _, _, by simp [Instr.makeMap]; rfl, ⟨Ext.upd _ _ _, h.new1 hn (by simp) (by simp) (by simp) ?_, Below.push h.bs _⟩, _, rfl, .map (upd_eq _ _ _)⟩
  intro es e; cases e; exact ⟨rfl, _, rfl⟩

theorem sim_range (h : HRel m s.H w base) (t : TypeId) {x x' : Value} (hx : VRel m x x') : Sim P base m s w (opRange P t x) (Instr.range t x') VR := by
  unfold opRange
  split
  · rename_i str hu
    cases hx.string_inv
    intro v s' ex hf
    obtain ⟨b, s1, e1, e2⟩ := M.bnd_some ex
    obtain ⟨rfl, rfl⟩ := M.ret_some e2
    obtain ⟨rfl, rfl⟩ := newObj_some (n := s.n) (H := s.H) (lim := s.lim) (log := s.log) e1
    have hn : m s.n = none := hf _ (Nat.le_refl _) (Nat.lt_succ_self _)
    refine ⟨upd m s.n ⟨w.heap.size, 0, 0, 0⟩, _, _, by simp [Instr.range, run_under hu]; rfl, ⟨Ext.upd _ _ _, h.new1 hn (by simp) (o' := .stringIter str 0) ?_ (by simp) (by simp), Below.push h.bs _⟩, _, rfl, ?_⟩
    · intro s p e; cases e; rfl
    · exact .ptr (i := 0) (upd_eq _ _ _)
  · exact Sim.fail

theorem sim_next (h : HRel m s.H w base) (ty : TypeId) {x x' : Value} (str : Bool) (hx : VRel m x x') : Sim P base m s w (opNext x str) (Instr.next x' str ty) VR := by
  unfold opNext
  split
  · rename_i r ha
    cases addrOf_some ha
    obtain ⟨l, hm, rfl⟩ := hx.ptr_inv
    intro v s' ex hf
    obtain ⟨o, ho, hh⟩ := touch_some (n := s.n) (H := s.H) (lim := s.lim) (log := s.log) ex
    cases o with
    | iter q pos =>
      obtain ⟨l', g1, g2, g3, g4⟩ := h.iter _ _ _ ho
      rw [hm] at g1; cases g1
      unfold nextIn at hh
      cases hb : Nat.blt pos q.size with
      | true =>
        simp only [hb] at hh
        rw [Nat.blt_eq] at hb
        generalize hd : Utf8.decode q pos = cw at hh
        obtain ⟨c, width⟩ := cw
        simp only [force_eq, Option.some.injEq, Prod.mk.injEq] at hh
        rcases hh with ⟨⟨_, hh⟩, _⟩ | ⟨y, ⟨rfl, rfl⟩, rfl⟩
        · cases hh
        · refine ⟨m, _, putObj w l.cb (.stringIter q (pos + width)), by simp [Instr.next, g2, run_getO g4, hb, hd, run_setO _ g4]; rfl, ⟨Ext.refl _ _ _, h.turn ho hm g3 (.inl ⟨_, _, rfl⟩) (.inl ⟨_, _, rfl, g2, rfl⟩), putObj_below _ _ _ _ g3⟩, _, rfl, ?_⟩
          exact .tuple (.cons (.atom rfl) (.cons (.atom rfl) (.cons (.atom rfl) .nil)))
      | false =>
        simp only [hb, Option.some.injEq, Prod.mk.injEq] at hh
        have hb : ¬ pos < q.size := fun hlt => by rw [← Nat.blt_eq] at hlt; rw [hlt] at hb; cases hb
        rcases hh with ⟨⟨rfl, _⟩, rfl⟩ | ⟨y, ⟨_, hh⟩, _⟩
        · refine ⟨m, .tuple #[.bool false], w, by simp [Instr.next, g2, run_getO g4, hb], ⟨Ext.refl _ _ _, h, Below.refl _ _⟩, _, rfl, .tuple (.cons (.atom rfl) .nil)⟩
        · cases hh
    | _ => rcases hh with ⟨hh, hs⟩ | ⟨y, hh, hs⟩ <;> simp [nextIn] at hh
  · exact Sim.fail
end
end Go.Shade
