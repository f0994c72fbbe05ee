/- Regions that draw their order: what any order comes to. Part 3. -/
import Derived.Test.YteailohgaoglnaaGreatDoorShadeX
namespace Go.Shade
open Go.RowKit
set_option linter.unusedVariables false

section
variable {P : Program} {base : Nat} {call : CallSem} {ops : Array Oper} {nt : Nat} {fo : Tr Value → Fr} {Tf : Nat → Tr Value} {nf : Nat → Nat} {Hf : Nat → Tr AObj} {vf : Nat → Value} {lf : Nat → List Acc}

theorem getD_false_true {listed : Array Bool} {j : Nat} (hj : j < listed.size) : listed.getD j true = listed.getD j false := by simp [hj]

theorem count_zero {listed : Array Bool} (h : listed.toList.countP (fun b => !b) = 0) {j : Nat} (hj : j < listed.size) : listed.getD j false = true := by
  rw [List.countP_eq_zero] at h
  have := h listed[j] (by simp)
  simpa [hj] using this

theorem ready_none (hb : Back ops.toList) {listed : Array Bool} (hs : listed.size = ops.size) (hr : Region.ready .any ops listed = []) : ∀ j, j < ops.size → listed.getD j false = true := by
  intro j
  induction j using Nat.strongRecOn with
  | _ j ih =>
    intro hj
    cases hq : listed.getD j false with
    | true => rfl
    | false =>
      have hmem : j ∈ Region.ready .any ops listed := by
        rw [mem_ready]
        refine ⟨by rw [getD_false_true (by omega)]; exact hq, ops[j], by simp [hj], fun e he hbe => ?_⟩
        have := hb j ops[j] (by simp [hj]) e (by simpa using he) hbe
        exact ih e.on this (by omega)
      rw [hr] at hmem; cases hmem

theorem DSet.go (D : DSet P base call ops nt fo Tf nf Hf vf lf) {m0 : Mp} {w0 : World} {a0 : Act} (hnt : nt ≤ a0.tmps.size) (hG : Glob P m0) :
    ∀ (fuel t : Nat) (listed : Array Bool) (m : Mp) (K : Tr AObj) (a : Act) (w : World), listed.size = ops.size → listed.toList.countP (fun b => !b) ≤ fuel →
      DInv P base ops.toList Tf nf Hf lf m0 w0 a0 (fun j => listed.getD j false = true) m K a w →
      (∀ j, listed.getD j false = true → ∀ o, ops.toList[j]? = some o → ∀ e ∈ o.after.toList, Region.binds .any e = true → listed.getD e.on false = true) →
      ∃ m' K' a' w', DInv P base ops.toList Tf nf Hf lf m0 w0 a0 (fun j => j < ops.toList.length) m' K' a' w' ∧
        ∀ (b : Frame) (k : List Item) (cs : List Frame), Steps P (lone (b.at a (.inRegion ops (Region.linearise.go .any ops fuel t listed []) :: k)) cs w) (lone (b.at a' (.inRegion ops [] :: k)) cs w') := by
  intro fuel
  have done : ∀ (listed : Array Bool) (m : Mp) (K : Tr AObj) (a : Act) (w : World), listed.size = ops.size → (∀ j, j < ops.size → listed.getD j false = true) →
      DInv P base ops.toList Tf nf Hf lf m0 w0 a0 (fun j => listed.getD j false = true) m K a w → DInv P base ops.toList Tf nf Hf lf m0 w0 a0 (fun j => j < ops.toList.length) m K a w := by
    intro listed m K a w hs hall I
    have : (fun j => listed.getD j false = true) = (fun j => j < ops.toList.length) := by
      funext j
      apply propext
      constructor
      · intro h
        rcases Nat.lt_or_ge j listed.size with h1 | h1
        · simp; omega
        · simp [Array.getElem?_eq_none h1] at h
      · intro h; exact hall j (by simpa using h)
    rw [this] at I
    exact I
  induction fuel with
  | zero =>
    intro t listed m K a w hs hc I hX
    exact ⟨m, K, a, w, done listed m K a w hs (fun j hj => count_zero (by omega) (by omega)) I, fun b k cs => Steps.refl P _⟩
  | succ fuel ih =>
    intro t listed m K a w hs hc I hX
    have hgo : Region.linearise.go .any ops (fuel + 1) t listed [] = match (Region.ready .any ops listed)[t % (Region.ready .any ops listed).length]? with
      | some i => Region.linearise.go .any ops fuel (t / (Region.ready .any ops listed).length) (listed.setIfInBounds i true) [i]
      | none => [].reverse := rfl
    cases hi : (Region.ready .any ops listed)[t % (Region.ready .any ops listed).length]? with
    | none =>
      have hnil : Region.ready .any ops listed = [] := by
        cases hr : Region.ready .any ops listed with
        | nil => rfl
        | cons x xs =>
          rw [hr] at hi
          have hlt : t % (x :: xs).length < (x :: xs).length := Nat.mod_lt _ (by simp)
          simp at hi
          simp at hlt
          omega
      refine ⟨m, K, a, w, done listed m K a w hs (ready_none D.back hs hnil) I, fun b k cs => ?_⟩
      rw [hgo, hi]
      exact Steps.refl P _
    | some i =>
      obtain ⟨h1, o, ho, hpre⟩ := mem_ready.1 (List.mem_of_getElem? hi)
      have hiN : i < ops.size := (Array.getElem?_eq_some_iff.1 ho).1
      have hni : ¬ listed.getD i false = true := by
        rw [getD_false_true (by omega)] at h1
        rw [h1]; simp
      have hXN : ∀ j, listed.getD j false = true → j < ops.toList.length := by
        intro j h
        rcases Nat.lt_or_ge j listed.size with h1 | h1
        · simp; omega
        · simp [Array.getElem?_eq_none h1] at h
      obtain ⟨m1, K1, a1, w1, I1, hrun⟩ := D.next hnt hG I hXN hX (i := i) (o := o) (by rw [Array.getElem?_toList]; exact ho) hni (fun e he hb => hpre e (by simpa using he) hb)
      have hset : (fun j => listed.getD j false = true ∨ j = i) = (fun j => (listed.setIfInBounds i true).getD j false = true) := by
        funext j
        apply propext
        by_cases hj : i = j
        · subst hj
          simp [show i < listed.size from by omega]
        · rw [getD_set_ne false hj]
          constructor
          · rintro (h | h)
            · exact h
            · exact absurd h.symm hj
          · exact .inl
      rw [hset] at I1
      have hcnt : (listed.setIfInBounds i true).toList.countP (fun b => !b) ≤ fuel := by
        rw [Array.toList_setIfInBounds, List.countP_set (by simpa using (show i < listed.size from by omega))]
        have hli : listed.toList[i]'(by simpa using (show i < listed.size from by omega)) = false := by
          have : ¬ listed.getD i false = true := hni
          simpa [show i < listed.size from by omega] using this
        rw [hli]
        show listed.toList.countP (fun b => !b) - 1 + 0 ≤ fuel
        omega
      obtain ⟨m2, K2, a2, w2, I2, hrun2⟩ := ih (t / (Region.ready .any ops listed).length) (listed.setIfInBounds i true) m1 K1 a1 w1 (by simpa using hs) hcnt I1 (by
        intro j hj oj hoj e he hb
        by_cases hij : i = j
        · subst hij
          rw [Array.getElem?_toList, ho] at hoj
          cases hoj
          exact getD_set_true (hpre e (by simpa using he) hb)
        · rw [getD_set_ne false hij] at hj
          exact getD_set_true (hX j hj oj hoj e he hb))
      refine ⟨m2, K2, a2, w2, I2, fun b k cs => ?_⟩
      rw [hgo, hi]
      simp only []
      rw [linearise_go_acc, List.reverse_singleton, List.singleton_append]
      exact (hrun b k cs _).trans (hrun2 b k cs)

theorem quiet_clash {n0 : Nat} {ri rj : Rec} (h1 : quietRec n0 ri = true) (h2 : quietRec n0 rj = true) (hn : n0 ≤ ri.n) : ri.clash rj = false := by
  cases hc : ri.clash rj with
  | false => rfl
  | true =>
    unfold Rec.clash at hc
    rw [List.any_eq_true] at hc
    obtain ⟨e, he, hb⟩ := hc
    unfold quietRec at h1 h2
    rw [List.all_eq_true] at h1 h2
    have := h2 e he
    simp only [Bool.and_eq_true, Bool.not_eq_true', Nat.blt_eq] at this
    simp only [Bool.or_eq_true, Bool.and_eq_true, List.any_eq_true, Nat.blt_eq] at hb
    rcases hb with ⟨h3, _⟩ | ⟨d, hd, hcl⟩
    · have := Nat.le_of_ble_eq_true h3; omega
    · have h4 := h1 d hd
      simp only [Bool.and_eq_true, Bool.not_eq_true'] at h4
      unfold Acc.clash at hcl
      rw [h4.1, this.1] at hcl
      simp at hcl

theorem sim_draw (ok : POk P) (hc : CallOK P base call) (mc : MonoCall call) (lc : LocalCall call) (hfol : P.follows .mixedOrders = true) (hok : okDraw ops.toList = true) (hopd : ∀ o ∈ ops.toList, ∀ x ∈ o.op.operands.toList, okOpd P x = true)
    {m : Mp} {s : S} {w : World} {fr : Fr} {a : Act} (hfr : FrRel m fr a) {p' : Option Value} (hp : PanRel m fr.pan fr.recd p') (h : HRel m s.H w base) (hG : Glob P m) (id : Nat) (f : FuncId)
    {out : Out} {fr' : Fr} {s' : S} (e : evRegion P call ops.toList true fr s = some ((out, fr'), s')) (hf : Fresh m s.n s'.n) :
    ∃ m' a' w' ex, Step base m m' s.n s'.n s'.H w w' ∧ FrRel m' fr' a' ∧ PanRel m' fr'.pan fr'.recd p' ∧ OutRel m' out ex ∧
      ∀ (b : Frame) (k : List Item) (cs : List Frame), b.fn = f → CsOk b.kind p' cs → Arrives P (lone (b.at a (.code (.region id ops true) :: k)) (csOf p' fr.recd cs) w) b k (csOf p' fr'.recd cs) ex a' w' := by
  obtain ⟨n, H, lim, log⟩ := s
  simp only [evRegion] at e
  obtain ⟨n0, s0, e0, e1⟩ := M.bnd_some e
  simp only [getN, Option.some.injEq, Prod.mk.injEq] at e0
  obtain ⟨rfl, rfl⟩ := e0
  obtain ⟨r, s1, e2, e3⟩ := M.bnd_some e1
  obtain ⟨fr1, recs⟩ := r
  obtain ⟨T, nt, defs, pan, recd⟩ := fr
  obtain ⟨Tf, nf, Hf, vf, lf, t0, n0', h0, hfr1, g1, g2, g3, tx⟩ := evDraw_text lc ops.toList nt defs pan recd ops.toList T n H lim log [] fr1 recs s1 e2
  subst hfr1
  unfold evDrawn at e3
  simp only [] at e3
  cases hd : drawn ops.toList n recs with
  | false => rw [hd] at e3; exact (M.fail_some (s := s1) e3).elim
  | true =>
    rw [hd] at e3
    obtain ⟨e4, rfl⟩ := M.ret_some e3
    cases e4
    rw [List.append_nil] at g3
    obtain ⟨hback, hap⟩ := okDraw_spec hok
    have D0 : ∀ (hpart : ∀ j, j < ops.toList.length → ∀ i, i < j → (bitsF ops.toList j).testBit i = true ∨ Rec.clash ⟨nf i, nf (i + 1), lf i⟩ ⟨nf j, nf (j + 1), lf j⟩ = false),
        DSet P base call ops nt (fun T => ⟨T, nt, defs, pan, recd⟩) Tf nf Hf vf lf := fun hpart => ⟨ok, hc, mc, lc, tx, fun _ => rfl, hback, hap, hpart, hopd, fun _ => rfl⟩
    have nle : ∀ j, j < ops.toList.length → nf j ≤ nf (j + 1) := by
      intro j hj
      obtain ⟨_, δ, _, L⟩ := Local.evVal P lc ops.toList _ _ _ _ _ _ _ _ _ _ _ (tx.ev j _ (List.getElem?_eq_getElem hj)) (Nat.le_refl _)
      exact L.le
    have nmono : ∀ j i, i ≤ j → j ≤ ops.toList.length → nf i ≤ nf j := by
      intro j
      induction j with
      | zero => intro i hi _; rw [show i = 0 from by omega]; exact Nat.le_refl _
      | succ j ih =>
        intro i hi hj
        by_cases h : i = j + 1
        · subst h; exact Nat.le_refl _
        · exact Nat.le_trans (ih i (by omega) (by omega)) (nle j (by omega))
    have hpart : ∀ j, j < ops.toList.length → ∀ i, i < j → (bitsF ops.toList j).testBit i = true ∨ Rec.clash ⟨nf i, nf (i + 1), lf i⟩ ⟨nf j, nf (j + 1), lf j⟩ = false := by
      unfold drawn at hd
      cases hq : recs.all (quietRec n) with
      | true =>
        intro j hj i hij
        right
        rw [List.all_eq_true] at hq
        have hmem : ∀ q, q < ops.toList.length → (⟨nf q, nf (q + 1), lf q⟩ : Rec) ∈ recs := by
          intro q hq
          rw [g3]
          have := revl_get (fun j => (⟨nf j, nf (j + 1), lf j⟩ : Rec)) ops.toList.length q hq
          rw [nth_eq] at this
          exact List.mem_of_getElem? this
        exact quiet_clash (hq _ (hmem i (by omega))) (hq _ (hmem j hj)) (by have := nmono i 0 (by omega) (by omega); show n ≤ nf i; omega)
      | false =>
        rw [hq] at hd
        simp only [] at hd
        rw [g3, aheadBits_all] at hd
        exact noClash_spec _ hd
    have D := D0 hpart
    have I0 : DInv P base ops.toList Tf nf Hf lf m { w with drawn := w.drawn + 1 } a (fun j => (Array.replicate ops.size false).getD j false = true) m H a { w with drawn := w.drawn + 1 } := by
      have hno : ∀ j, ¬ (Array.replicate ops.size false).getD j false = true := by
        intro j
        rcases Nat.lt_or_ge j ops.size with h1 | h1
        · simp [h1]
        · simp [Array.getElem?_eq_none, h1]
      have hz : ∀ {W : Nat → Prop} {k : Nat}, At (fun j => (Array.replicate ops.size false).getD j false = true) W k → k = 0 := by
        rintro W k (⟨h, _⟩ | ⟨j, _, h, _⟩)
        · exact h
        · exact absurd h (hno j)
      refine ⟨h.heap rfl, ?_, ?_, ?_, fun _ _ => rfl, MLe.refl _, Below.refl _ _, rfl, rfl⟩
      · intro b k hk; rw [hz hk, h0]
      · intro t k hk; rw [hz hk, t0]; exact hfr.tmps t
      · intro j hj _ b h1 h2
        refine hf b ?_ ?_
        · have := nmono j 0 (by omega) (by omega); simp only []; omega
        · have := nmono ops.toList.length (j + 1) (by omega) (Nat.le_refl _); rw [g1]; omega
    have hnone : ∀ j, (Array.replicate ops.size false).getD j false = true → False := by
      intro j hj
      rcases Nat.lt_or_ge j ops.size with h1 | h1
      · simp [h1] at hj
      · simp [Array.getElem?_eq_none, h1] at hj
    obtain ⟨m', K', a', w', I, hrun⟩ := D.go hfr.size hG ops.size (w.tape w.drawn (.order f id)) (Array.replicate ops.size false) m H a _ (by simp) (by
      refine Nat.le_trans List.countP_le_length (by simp)) I0 (fun j hj => (hnone j hj).elim)
    have hXall : ∀ j, (fun j => j < ops.toList.length) j ↔ j < ops.toList.length := fun j => Iff.rfl
    have hall : ∀ W, ∃ k, At (fun j => j < ops.toList.length) W k := fun W => At.exists W (fun j hj => hj)
    refine ⟨m', a', w', .normal, ⟨?_, ?_, ?_⟩, ⟨?_, ?_, ?_⟩, ?_, trivial, ?_⟩
    · intro b hb
      refine I.ext b ?_
      rw [n0', ← g1]; exact hb
    · refine I.rel.same fun b => ?_
      obtain ⟨k, hk⟩ := hall (WrB nf lf b)
      rw [g2, I.heap b k hk]
      exact At.all (val := fun k => (Hf k).get b) (D.heapSteady b) hXall hk
    · exact Below.drew' I.below
    · intro t
      obtain ⟨k, hk⟩ := hall (WrT ops.toList t)
      have := At.all (val := fun k => tmpOf (Tf k) t) (D.tmpSteady t) hXall hk
      have this : tmpOf (Tf ops.toList.length) t = tmpOf (Tf k) t := this
      simp only []
      rw [this]
      exact I.tmps t k hk
    · rw [I.size]; exact hfr.size
    · rw [I.defers]; exact hfr.defs.mono I.mle
    · exact hp.mono I.mle
    · intro b k cs hbf hcs
      refine .head step_region_draw ?_
      have hsch : Region.schedule (P.follows .mixedOrders) ops (w.tape w.drawn (.order b.fn id)) = Region.linearise.go .any ops ops.size (w.tape w.drawn (.order f id)) (Array.replicate ops.size false) [] := by
        rw [hfol, hbf]; simp only [Region.schedule, Bool.true_or, if_true, Region.linearise]
      rw [hsch]
      exact (hrun b k _).trans (.one step_region_end)
end
end Go.Shade
