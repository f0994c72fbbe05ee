/- The evaluator's pieces beside the model's: rows read, written, made. -/
import Derived.Test.YteailohgaoglnaaGreatDoorShadeI
namespace Go.Shade
open Go.RowKit
set_option linter.unusedVariables false

structure Step (base : Nat) (m m' : Mp) (n n' : Nat) (H' : Tr AObj) (w w' : World) : Prop where
  ext : Ext m m' n n'
  rel : HRel m' H' w' base
  below : Below base w w'

/-- Whatever the one yields, the other yields the like. -/
def Sim {α β : Type} (P : Program) (base : Nat) (m : Mp) (s : S) (w : World) (x : M α) (y : Sem β) (R : Mp → α → β → Prop) : Prop :=
  ∀ a s', x s = some (a, s') → Fresh m s.n s'.n → ∃ m' b w', y.run P w = .ok b w' ∧ Step base m m' s.n s'.n s'.H w w' ∧ R m' a b

theorem Below.refl' (base : Nat) (w : World) : Below base w w := Below.refl _ _

section
variable {α β γ δ : Type} {P : Program} {base : Nat} {m : Mp} {s : S} {w : World}

theorem Step.refl (h : HRel m s.H w base) : Step base m m s.n s.n s.H w w := ⟨Ext.refl _ _ _, h, Below.refl _ _⟩

theorem Sim.ret {a : α} {b : β} {R : Mp → α → β → Prop} (h : HRel m s.H w base) (hr : R m a b) : Sim P base m s w (M.ret a) (pure b) R := by
  intro a' s' e hf
  obtain ⟨rfl, rfl⟩ := M.ret_some e
  exact ⟨m, b, w, rfl, Step.refl h, hr⟩
theorem Sim.fail {y : Sem β} {R : Mp → α → β → Prop} : Sim P base m s w (M.fail : M α) y R := fun a s' e => (M.fail_some e).elim

theorem Sim.bnd {x : M α} {f : α → M γ} {y : Sem β} {g : β → Sem δ} {R : Mp → α → β → Prop} {R' : Mp → γ → δ → Prop} (hx : Sim P base m s w x y R) (mx : Mono x) (mf : ∀ a, Mono (f a))
    (hf : ∀ a b s1 m1 w1, x s = some (a, s1) → MLe m m1 → HRel m1 s1.H w1 base → R m1 a b → Sim P base m1 s1 w1 (f a) (g b) R') : Sim P base m s w (M.bnd x f) (y >>= g) R' := by
  intro c s' e hfr
  obtain ⟨a, s1, h1, h2⟩ := M.bnd_some e
  have l1 := mx _ _ _ h1
  have l2 := mf _ _ _ _ h2
  obtain ⟨m1, b, w1, r1, st1, hR⟩ := hx a s1 h1 (hfr.left l2)
  obtain ⟨m2, d, w2, r2, st2, hR'⟩ := hf a b s1 m1 w1 h1 (st1.ext.le (hfr.left l2)) st1.rel hR c s' h2 (hfr.right st1.ext l1)
  exact ⟨m2, d, w2, by rw [Sem.run_bind, r1]; exact r2, ⟨st1.ext.trans st2.ext l1 l2, st2.rel, st1.below.trans st2.below⟩, hR'⟩

theorem Sim.imp {x : M α} {y : Sem β} {R R' : Mp → α → β → Prop} (h : Sim P base m s w x y R) (hr : ∀ m a b, R m a b → R' m a b) : Sim P base m s w x y R' := by
  intro a s' e hf
  obtain ⟨m', b, w', h1, h2, h3⟩ := h a s' e hf
  exact ⟨m', b, w', h1, h2, hr _ _ _ h3⟩

/-- The other is the like of another one. -/
theorem Sim.run {x : M α} {y y' : Sem β} {R : Mp → α → β → Prop} (h : Sim P base m s w x y R) (e : y'.run P w = y.run P w) : Sim P base m s w x y' R := by
  intro a s' ex hf
  obtain ⟨m', b, w', h1, h2, h3⟩ := h a s' ex hf
  exact ⟨m', b, w', by rw [e]; exact h1, h2, h3⟩

/-- What stands behind a value that is only turned. -/
theorem Sim.map {x : M α} {y : Sem β} {f : α → γ} {g : β → δ} {R : Mp → α → β → Prop} {R' : Mp → γ → δ → Prop} (h : Sim P base m s w x y R) (hr : ∀ m a b, R m a b → R' m (f a) (g b)) :
    Sim P base m s w (M.bnd x fun a => M.ret (f a)) (y >>= fun b => pure (g b)) R' := by
  intro c s' e hf
  obtain ⟨a, s1, h1, h2⟩ := M.bnd_some e
  obtain ⟨rfl, rfl⟩ := M.ret_some h2
  obtain ⟨m', b, w', r1, st, hR⟩ := h a s' h1 hf
  exact ⟨m', g b, w', by rw [Sem.run_bind, r1]; rfl, st, hr _ _ _ hR⟩

theorem Addr.add_plain (b i j : Nat) : (⟨b, i, none⟩ : Addr).add j = ⟨b, i + j, none⟩ := by unfold Addr.add; split <;> simp_all

theorem cell_of {g i : Nat} {c : Array Value} {e : TypeId} {fz : Nat × Nat} (h : w.heap[g]? = some (.cells c e fz)) : w.cell? ⟨g, i, none⟩ = c[i]? := by
  simp [World.cell?, h]
theorem frozen_of {g i : Nat} {c : Array Value} {e : TypeId} {fz : Nat × Nat} (h : w.heap[g]? = some (.cells c e fz)) (hz : NoFz c.size fz) (hi : i < c.size) : w.frozen? ⟨g, i, none⟩ = false := by
  obtain ⟨lo, hi'⟩ := fz
  simp only [World.frozen?, h]
  simp only [Bool.and_eq_false_imp, decide_eq_true_eq, decide_eq_false_iff_not]
  rcases hz with hz | hz
  · cases hz; omega
  · simp only at hz; omega

theorem putObj_self {g : Nat} {o : Obj} (h : w.heap[g]? = some o) : putObj w g o = w := by
  unfold putObj
  congr 1
  obtain ⟨h1, h2⟩ := Array.getElem?_eq_some_iff.1 h
  apply Array.ext
  · simp
  · intro i hi hi'
    rw [Array.getElem_setIfInBounds]
    split
    · rename_i e; subst e; exact h2.symm
    · rfl
theorem putObj_twice (g : Nat) (o o' : Obj) : putObj (putObj w g o) g o' = putObj w g o' := by
  simp [putObj]
theorem setCell_put {g i : Nat} {c : Array Value} {e : TypeId} {fz : Nat × Nat} {v : Value} (h : w.heap[g]? = some (.cells c e fz)) :
    w.setCell ⟨g, i, none⟩ v = putObj w g (.cells (c.setIfInBounds i v) e fz) := by
  obtain ⟨h1, h2⟩ := Array.getElem?_eq_some_iff.1 h
  unfold World.setCell putObj
  congr 1
  apply Array.ext
  · simp
  · intro j hj hj'
    rw [Array.getElem_modify, Array.getElem_setIfInBounds]
    split
    · rename_i e; subst e; rw [h2]; simp
    · rfl

theorem run_storeCells (P : Program) (g o : Nat) (e : TypeId) (fz : Nat × Nat) : ∀ (vs : List Value) (i : Nat) (c : Array Value) (w : World), w.heap[g]? = some (.cells c e fz) → o + i + vs.length ≤ c.size →
    NoFz c.size fz → (∀ v ∈ vs, v.oneCell' = true) →
    ∃ c', (storeCells ⟨g, o, none⟩ vs i).run P w = .ok () (putObj w g (.cells c' e fz)) ∧ c'.size = c.size ∧ ∀ j, c'[j]? = if o + i ≤ j ∧ j < o + i + vs.length then vs[j - (o + i)]? else c[j]?
  | [], i, c, w, hg, _, _, _ => by
    refine ⟨c, by rw [putObj_self hg]; rfl, rfl, fun j => ?_⟩
    rw [if_neg (by simp)]
  | v :: vs, i, c, w, hg, hl, hz, h1 => by
    simp only [List.length_cons] at hl
    have hlt : o + i < c.size := by omega
    have hc : w.cell? ((⟨g, o, none⟩ : Addr).add i) = some c[o + i] := by rw [Addr.add_plain, cell_of hg, Array.getElem?_eq_getElem hlt]
    have hfz : w.frozen? ((⟨g, o, none⟩ : Addr).add i) = false := by rw [Addr.add_plain]; exact frozen_of hg hz hlt
    have hst : (store ((⟨g, o, none⟩ : Addr).add i) v).run P w = .ok () (putObj w g (.cells (c.setIfInBounds (o + i) v) e fz)) := by
      rw [run_store P w _ v .plain (h1 v (by simp)), hc, hfz, Addr.add_plain, setCell_put hg]
      rfl
    have hg' : (putObj w g (.cells (c.setIfInBounds (o + i) v) e fz)).heap[g]? = some (.cells (c.setIfInBounds (o + i) v) e fz) := putObj_same _ _ _ (Array.getElem?_eq_some_iff.1 hg).1
    obtain ⟨c', r, hs, hj⟩ := run_storeCells P g o e fz vs (i + 1) _ _ hg' (by simp; omega) (by simpa using hz) (fun u hu => h1 u (by simp [hu]))
    refine ⟨c', ?_, by rw [hs]; simp, fun j => ?_⟩
    · simp only [storeCells, Sem.run_bind, hst, Result.andThen_ok, r, putObj_twice]
    · rw [hj j, Array.getElem?_setIfInBounds]
      simp only [List.length_cons]
      by_cases a1 : j = o + i
      · subst a1
        rw [if_neg (by omega), if_pos rfl, if_pos hlt, if_pos (by omega)]; simp
      · by_cases a2 : o + (i + 1) ≤ j ∧ j < o + (i + 1) + vs.length
        · rw [if_pos a2, if_pos (by omega), show j - (o + i) = (j - (o + (i + 1))) + 1 from by omega]; simp
        · rw [if_neg a2, if_neg (by omega), if_neg (by omega)]

theorem rd_rdRow (h : HRel m s.H w base) {b i k : Nat} {l : Lc} (hl : m b = some l) {r : List Value} {s' : S} (e : rdRow b i k s = some (r, s')) :
    ∃ log' arr, s' = ⟨s.n, s.H, s.lim, log'⟩ ∧ (∀ w1 : World, w1.heap = w.heap → (loadCells ⟨l.cb, l.off + i, none⟩ k).run P w1 = .ok arr w1) ∧ VRelL m r arr.toList ∧ r.length = k ∧ ∀ j, j < k → arr[j]? = w.cell? ⟨l.cb, l.off + i + j, none⟩ := by
  obtain ⟨n, H, lim, log⟩ := s
  obtain ⟨x, hx, hh⟩ := touch_some e
  obtain ⟨cs, rw, old, esz, rfl, hr, hs⟩ : ∃ cs rw old esz, x = .cells cs rw old esz ∧ rowOf cs i k = some r ∧ s' = ⟨n, H, lim, note b lim log false⟩ := by
    rcases hh with ⟨hh, hs⟩ | ⟨y, hh, hs⟩ <;> cases x <;> simp only [seenO] at hh <;> (try cases hh)
    · rename_i cs rw old esz
      cases hq : rowOf cs i k with
      | none => simp [hq] at hh
      | some q => simp only [hq, Option.some.injEq, Prod.mk.injEq, and_true] at hh; subst hh; exact ⟨cs, rw, old, esz, rfl, hq, hs⟩
    · split at hh <;> cases hh
  subst hs
  obtain ⟨l', c, e1, fz, h1, h2, h3, h4, h5, h6, h7⟩ := h.cells _ _ _ _ _ hx
  rw [hl] at h1; cases h1
  have hlen := rowOf_length hr
  have hrow := rowOf_eq hr
  -- the cells as they lie
  have hex : ∀ j, j < k → ∃ v', c[l.off + i + j]? = some v' ∧ ∀ v, r[j]? = some v → VRel m v v' := by
    intro j hj
    have hq := rowOf_get hr j hj
    obtain ⟨v, hv⟩ : ∃ v, r[j]? = some v := ⟨r[j]'(by omega), List.getElem?_eq_getElem _⟩
    obtain ⟨v', a1, a2⟩ := h6 (i + j) v (by rw [← hq]; exact hv)
    exact ⟨v', by rw [Nat.add_assoc]; exact a1, fun u hu => by rw [hv] at hu; cases hu; exact a2⟩
  let f : Nat → Value := fun j => (c[l.off + i + j]?).getD undef
  have hf1 : ∀ j, j < k → w.cell? ((⟨l.cb, l.off + i, none⟩ : Addr).add j) = some (f j) := by
    intro j hj
    obtain ⟨v', a1, _⟩ := hex j hj
    rw [Addr.add_plain, cell_of h3, a1]; simp [f, a1]
  have hrun : ∀ w1 : World, w1.heap = w.heap → (loadCells ⟨l.cb, l.off + i, none⟩ k).run P w1 = .ok ((List.range k).map f).toArray w1 := fun w1 e1 =>
    run_loadCells (P := P) w1 ⟨l.cb, l.off + i, none⟩ k f fun j hj => by have := hf1 j hj; simp only [World.cell?, e1] at this ⊢; exact this
  refine ⟨_, _, rfl, hrun, ?_, hlen, fun j hj => by have := hf1 j hj; rw [Addr.add_plain] at this; rw [this]; simp [hj]⟩
  refine VRelL.of_get (by simp [hlen]) fun j v hv => ?_
  have hj : j < k := by have := (List.getElem?_eq_some_iff.1 hv).1; omega
  obtain ⟨v', a1, a2⟩ := hex j hj
  exact ⟨v', by simp [hj, f, a1], a2 v hv⟩

theorem sim_rdRow (h : HRel m s.H w base) {b i k : Nat} {l : Lc} (hl : m b = some l) :
    Sim P base m s w (rdRow b i k) (loadCells ⟨l.cb, l.off + i, none⟩ k) (fun m r a => VRelL m r a.toList ∧ r.length = k) := by
  intro r s' e hf
  obtain ⟨log', arr, rfl, h1, h2, h3, _⟩ := rd_rdRow (P := P) h hl e
  exact ⟨m, arr, w, h1 w rfl, ⟨Ext.refl _ _ _, h, Below.refl _ _⟩, h2, h3⟩

theorem sim_rdCell (h : HRel m s.H w base) {b i : Nat} {l : Lc} (hl : m b = some l) :
    Sim P base m s w (rdCell b i) (load ⟨l.cb, l.off + i, none⟩) VRel := by
  intro r s' e hf
  obtain ⟨n, H, lim, log⟩ := s
  obtain ⟨x, hx, hh⟩ := touch_some e
  obtain ⟨cs, rw, old, esz, rfl, hr, hs⟩ : ∃ cs rw old esz, x = .cells cs rw old esz ∧ cs[i]? = some r ∧ s' = ⟨n, H, lim, note b lim log false⟩ := by
    rcases hh with ⟨hh, hs⟩ | ⟨y, hh, hs⟩ <;> cases x <;> simp only [seenO] at hh <;> (try cases hh)
    · rename_i cs rw old esz
      cases hq : nth cs i with
      | none => simp [hq] at hh
      | some q => simp only [hq, Option.some.injEq, Prod.mk.injEq, and_true] at hh; subst hh; exact ⟨cs, rw, old, esz, rfl, by rw [← nth_eq]; exact hq, hs⟩
    · split at hh <;> cases hh
  subst hs
  obtain ⟨l', c, e1, fz, h1, h2, h3, h4, h5, h6, h7⟩ := h.cells _ _ _ _ _ hx
  rw [hl] at h1; cases h1
  obtain ⟨v', a1, a2⟩ := h6 i r hr
  refine ⟨m, v', w, ?_, ⟨Ext.refl _ _ _, h, Below.refl _ _⟩, a2⟩
  rw [run_load, cell_of h3, a1]

theorem core_write {H : Tr AObj} (h : HRel m H w base) {b i : Nat} {cs cs' : List Value} {old : List Nat} {esz : Nat} {vs vs' : List Value} {l : Lc} (hb : H.get b = some (.cells cs true old esz))
    (hold : ∀ a ∈ old, ¬ liveIn H a) (hl : m b = some l) (hp : putAt i vs cs = some cs') (h1 : vs.all oneCell = true) (hv : VRelL m vs vs') :
    ∃ w', (storeCells ⟨l.cb, l.off + i, none⟩ vs').run P w = .ok () w' ∧ HRel m (H.set b (.cells cs' true [] esz)) w' base ∧ Below base w w' := by
  obtain ⟨l', c, e, fz, g1, g2, g3, g4, g5, g6, g7⟩ := h.cells _ _ _ _ _ hb
  rw [hl] at g1; cases g1
  obtain ⟨hbase, hz⟩ := g7 rfl
  have hlen := hv.length
  have hpl := (putAt_eq _ _ _ _ hp).2
  obtain ⟨c', r, hs, hj⟩ := run_storeCells P l.cb (l.off + i) e fz vs' 0 c w g3 (by omega) hz (hv.allOne h1)
  refine ⟨_, r, h.write hb hold hl g3 hs (putAt_length hp) ?_, putObj_below _ _ _ _ hbase⟩
  intro j v hvj
  rw [putAt_get hp] at hvj
  rw [hj]
  split at hvj
  · rename_i hin
    obtain ⟨v', a1, a2⟩ := hv.get hvj
    refine ⟨v', ?_, a2⟩
    rw [if_pos (by omega), ← a1]
    congr 1; omega
  · rename_i hin
    obtain ⟨v', a1, a2⟩ := g6 j v hvj
    refine ⟨v', ?_, a2⟩
    rw [if_neg (by omega)]; exact a1

theorem kill_some : ∀ (l : List Nat) (s s' : S), kill l s = some ((), s') → HRel m s.H w base → s'.n = s.n ∧ HRel m s'.H w base ∧ (∀ a ∈ l, ¬ liveIn s'.H a) ∧ ∀ a, liveIn s'.H a → s'.H.get a = s.H.get a
  | [], s, s', e, h => by
    obtain ⟨_, rfl⟩ := M.ret_some e
    exact ⟨rfl, h, by simp, fun _ _ => rfl⟩
  | o :: l, ⟨n, H, lim, log⟩, s', e, h => by
    obtain ⟨a, s1, h1, h2⟩ := M.bnd_some e
    obtain ⟨x, hx, ⟨hc, _⟩ | ⟨y, hc, rfl⟩⟩ := touch_some h1
    · cases hc
    · cases hc
      obtain ⟨k1, k2, k3, k4⟩ := kill_some l _ s' h2 (h.kill1 o)
      have hno : ∀ a, liveIn s'.H a → a ≠ o := by
        intro a ha e
        subst e
        have := k4 a ha
        obtain ⟨z, hz, hd⟩ := ha
        rw [this, Tr.get_set_eq] at hz
        cases hz; exact hd rfl
      refine ⟨k1, k2, ?_, fun a ha => by rw [k4 a ha, Tr.get_set_ne _ _ (hno a ha)]⟩
      intro a ha hl
      rcases List.mem_cons.1 ha with rfl | ha
      · exact hno _ hl rfl
      · exact k3 a ha hl

theorem putRow_some {i : Nat} {vs cs : List Value} {esz : Nat} {r : List Nat} {y : Option AObj} (h : putRow i vs cs esz = some (r, y)) :
    ∃ cs', putAt i vs cs = some cs' ∧ vs.all oneCell = true ∧ r = [] ∧ y = some (.cells cs' true [] esz) := by
  unfold putRow at h
  split at h
  · rename_i cs' h1 h2; cases h; exact ⟨cs', h1, h2, rfl, rfl⟩
  · cases h

theorem sim_wrRow (h : HRel m s.H w base) {b i : Nat} {l : Lc} (hl : m b = some l) {vs vs' : List Value} (hv : VRelL m vs vs') :
    Sim P base m s w (wrRow b i vs) (storeCells ⟨l.cb, l.off + i, none⟩ vs') (fun _ _ _ => True) := by
  intro r s' e hf
  obtain ⟨n, H, lim, log⟩ := s
  obtain ⟨old, s1, h1, h2⟩ := M.bnd_some e
  obtain ⟨x, hx, hh⟩ := touch_some h1
  rcases hh with ⟨hh, rfl⟩ | ⟨y, hh, rfl⟩
  · -- something older may lie there
    obtain ⟨cs, o, l', esz, rfl, rfl⟩ : ∃ cs o l' esz, x = .cells cs true (o :: l') esz ∧ old = o :: l' := by
      cases x with
      | cells cs rw old' esz =>
        cases rw <;> cases old' <;> simp only [wrFirst] at hh
        · cases hh
        · cases hh
        · obtain ⟨_, _, _, _, e2⟩ := putRow_some hh; cases e2
        · cases hh; exact ⟨_, _, _, _, rfl, rfl⟩
      | _ => simp [wrFirst] at hh
    obtain ⟨_, s2, h3, h4⟩ := M.bnd_some h2
    obtain ⟨r2, s3, h5, h6⟩ := M.bnd_some h4
    obtain ⟨_, rfl⟩ := M.ret_some h6
    obtain ⟨k1, k2, k3, k4⟩ := kill_some _ _ _ h3 h
    obtain ⟨n2, H2, lim2, log2⟩ := s2
    obtain ⟨x2, hx2, hh2⟩ := touch_some h5
    obtain ⟨cs2, old2, esz2, cs', rfl, hp, ha, rfl⟩ : ∃ cs2 old2 esz2 cs', x2 = .cells cs2 true old2 esz2 ∧ putAt i vs cs2 = some cs' ∧ vs.all oneCell = true ∧ s' = ⟨n2, H2.set b (.cells cs' true [] esz2), lim2, note b lim2 log2 true⟩ := by
      rcases hh2 with ⟨hh2, hs⟩ | ⟨y, hh2, hs⟩
      · cases x2 with
        | cells cs2 rw old2 esz2 =>
          cases rw <;> simp only [wrThen] at hh2
          · cases hh2
          · obtain ⟨_, _, _, _, e2⟩ := putRow_some hh2; cases e2
        | _ => simp [wrThen] at hh2
      · cases x2 with
        | cells cs2 rw old2 esz2 =>
          cases rw <;> simp only [wrThen] at hh2
          · cases hh2
          · obtain ⟨cs', a1, a2, _, e2⟩ := putRow_some hh2; cases e2; exact ⟨_, _, _, _, rfl, a1, a2, hs⟩
        | _ => simp [wrThen] at hh2
    have hlb : liveIn H2 b := ⟨_, hx2, by simp⟩
    have hsame := k4 b hlb
    simp only [] at hsame
    rw [hx2, hx] at hsame
    cases hsame
    obtain ⟨w', g1, g2, g3⟩ := core_write (P := P) k2 hx2 k3 hl hp ha hv
    simp only [] at k1
    subst k1
    exact ⟨m, (), w', g1, ⟨Ext.refl _ _ _, g2, g3⟩, trivial⟩
  · obtain ⟨cs, esz, cs', rfl, rfl, hp, ha, rfl⟩ : ∃ cs esz cs', x = .cells cs true [] esz ∧ old = [] ∧ putAt i vs cs = some cs' ∧ vs.all oneCell = true ∧ y = .cells cs' true [] esz := by
      cases x with
      | cells cs rw old' esz =>
        cases rw <;> cases old' <;> simp only [wrFirst] at hh
        · cases hh
        · cases hh
        · obtain ⟨cs', a1, a2, a3, a4⟩ := putRow_some hh; cases a4; exact ⟨_, _, _, rfl, a3, a1, a2, rfl⟩
        · cases hh
      | _ => simp [wrFirst] at hh
    obtain ⟨_, rfl⟩ := M.ret_some h2
    obtain ⟨w', g1, g2, g3⟩ := core_write (P := P) h hx (by simp) hl hp ha hv
    exact ⟨m, (), w', g1, ⟨Ext.refl _ _ _, g2, g3⟩, trivial⟩

/-- A new row in a new block. -/
theorem HRel.newRow1 {H : Tr AObj} (h : HRel m H w base) {n : Nat} (hn : m n = none) {cs : List Value} {c : Array Value} {e : TypeId} {esz : Nat} {old : List Nat} (hlen : cs.length ≤ c.size) (hrow : RowRel m cs c 0)
    (hro : ∀ a ∈ old, (∃ k, m a = some k) ∧ ∀ x, H.get a = some x → x = .dead ∨ ∃ cs' old' esz', x = .cells cs' false old' esz') :
    HRel (upd m n ⟨w.heap.size, 0, c.size, esz⟩) (H.set n (.cells cs true old esz)) { w with heap := w.heap.push (.cells c e) } base := by
  have hne : ∀ a, liveIn H a → ∀ k, m a = some k → k.cb < w.heap.size := by
    intro a ha k hk
    obtain ⟨k', h1, h2⟩ := h.live_lt ha
    rw [hk] at h1; cases h1; exact h2
  refine h.new hn (by simp; have := h.bs; omega) ?_ (by simp) ?_ (by simp) (by simp) ?_ ?_ ?_
  · intro a ha k hk
    left
    rw [Array.getElem?_push, if_neg (by have := hne a ha k hk; omega)]
  · intro cs1 rw1 old1 esz1 e1
    cases e1
    exact ⟨rfl, c, e, (0, 0), by simp, rfl, by simpa using hlen, hrow, fun _ => ⟨h.bs, .inl rfl⟩⟩
  · intro a k ha hk hcb
    have := hne a ha k hk
    exact absurd hcb (by simp; omega)
  · intro cs1 rw1 old1 esz1 e1 a ha ds rw' old' esz' k hx hk hcb
    have := hne a ⟨_, hx, by simp⟩ k hk
    exact absurd hcb (by simp; omega)
  · intro cs1 rw1 old1 esz1 e1
    cases e1; exact hro

theorem Below.push {base : Nat} {w : World} (h : base ≤ w.heap.size) (o : Obj) : Below base w { w with heap := w.heap.push o } :=
  ⟨rfl, rfl, rfl, by simp, fun k hk => by show (w.heap.push o)[k]? = _; rw [Array.getElem?_push, if_neg (by omega)]⟩

/-- A new row of one's own: where it lies. -/
def AtNew (esz : Nat) (m : Mp) (b : Nat) (a : Addr) : Prop := ∃ l, m b = some l ∧ l.off = 0 ∧ l.esz = esz ∧ a = ⟨l.cb, 0, none⟩

theorem newRow_some {cs : List Value} {old : List Nat} {esz : Nat} {n : Nat} {H : Tr AObj} {lim : Nat} {log : List Acc} {b : Nat} {s' : S} (e : newRow cs old esz ⟨n, H, lim, log⟩ = some (b, s')) :
    cs.all oneCell = true ∧ b = n ∧ s' = ⟨n + 1, H.set n (.cells cs true old esz), lim, log⟩ := by
  unfold newRow at e
  cases h1 : cs.all oneCell with
  | true =>
    simp only [h1, newObj, force_eq, Option.some.injEq, Prod.mk.injEq] at e
    exact ⟨rfl, e.1.symm, e.2.symm⟩
  | false => rw [h1] at e; exact (M.fail_some e).elim

theorem sim_newRow (h : HRel m s.H w base) {cs : List Value} {c : Array Value} (e : TypeId) (esz : Nat) (hv : VRelL m cs c.toList) :
    Sim P base m s w (newRow cs [] esz) (Go.newRow e c) (fun m b a => AtNew esz m b a ∧ ∃ l, m b = some l ∧ l.sz = c.size) := by
  intro b s' ex hf
  obtain ⟨n, H, lim, log⟩ := s
  obtain ⟨h1, rfl, rfl⟩ := newRow_some ex
  have hn : m b = none := hf b (Nat.le_refl _) (Nat.lt_succ_self _)
  have hlen := hv.length
  simp only [Array.length_toList] at hlen
  refine ⟨upd m b ⟨w.heap.size, 0, c.size, esz⟩, ⟨w.heap.size, 0, none⟩, _, rfl, ⟨Ext.upd _ _ _, h.newRow1 hn (by omega) ?_ (by simp), Below.push h.bs _⟩, ⟨_, upd_eq _ _ _, rfl, rfl, rfl⟩, _, upd_eq _ _ _, rfl⟩
  intro i v hi
  obtain ⟨v', a1, a2⟩ := hv.get hi
  exact ⟨v', by simpa using a1, a2⟩

theorem run_sizeOf {t : TypeId} {k : Nat} (h : sizeOf' P t = some k) : (sizeOf t).run P w = .ok k w := by
  unfold sizeOf' at h
  cases hi : P.info? t with
  | none => simp [hi] at h
  | some i => simp [hi] at h; simp [sizeOf, typeInfo, hi, h]
theorem run_zero {t : TypeId} {z : Value} (h : zero' P t = some z) : (zeroValue t).run P w = .ok z w := by
  unfold zero' at h
  cases hi : P.types[t]? with
  | none => simp [hi] at h
  | some i =>
    simp only [hi] at h
    have h1 : P.info? t = some i := by
      obtain ⟨h1, h2⟩ := Array.getElem?_eq_some_iff.1 hi
      simp [Tables.info?, h1, h2]
    simp [zeroValue, typeInfo, h1, h]
theorem run_under {t : TypeId} {d : TypeDesc} (h : P.underlying t = some d) : (underlying t).run P w = .ok d w := by simp [underlying, h]
theorem run_isAgg {t : TypeId} {b : Bool} (h : isAgg' P t = some b) : (isAgg t).run P w = .ok b w := by
  unfold isAgg' at h
  cases hi : P.underlying t with
  | none => simp [hi] at h
  | some d => simp [hi] at h; subst h; simp only [isAgg, Sem.run_bind, run_under hi, Result.andThen_ok]; cases d <;> rfl

theorem sim_loadV (h : HRel m s.H w base) (t : TypeId) {b i : Nat} {l : Lc} (hl : m b = some l) :
    Sim P base m s w (loadV P t b i) (loadVar t ⟨l.cb, l.off + i, none⟩) VRel := by
  unfold loadV
  cases ha : isAgg' P t with
  | none => exact Sim.fail
  | some a =>
    cases a with
    | true =>
      cases hk : sizeOf' P t with
      | none => exact Sim.fail
      | some k =>
        refine Sim.run (y := loadCells ⟨l.cb, l.off + i, none⟩ k >>= fun c => pure (.agg c)) ?_ (by simp [loadVar, run_isAgg ha, run_sizeOf hk])
        exact Sim.map (sim_rdRow h hl) fun m r a hr => .agg (by simpa using hr.1)
    | false => exact Sim.run (sim_rdCell h hl) (by simp [loadVar, run_isAgg ha])

theorem sim_storeV (h : HRel m s.H w base) (t : TypeId) {b i : Nat} {l : Lc} (hl : m b = some l) {v v' : Value} (hv : VRel m v v') :
    Sim P base m s w (storeV P t b i v) (storeVar t ⟨l.cb, l.off + i, none⟩ v') (fun _ _ _ => True) := by
  unfold storeV
  cases hk : sizeOf' P t with
  | none => exact Sim.fail
  | some k =>
    simp only []
    cases hb : Nat.beq (cellsOf v).length k with
    | false => exact Sim.fail
    | true =>
      have hlen := hv.cells.length
      have hk2 := Nat.eq_of_beq_eq_true hb
      refine Sim.run (sim_wrRow h hl hv.cells) ?_
      have : v'.cells.size = k := by rw [← hk2, hlen]; simp
      simp [storeVar, run_sizeOf hk, this]
end
end Go.Shade
