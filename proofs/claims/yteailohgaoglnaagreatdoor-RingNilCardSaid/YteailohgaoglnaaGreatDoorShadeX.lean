/- Regions that draw their order: what any order comes to. Part 2. -/
import Derived.Test.YteailohgaoglnaaGreatDoorShadeW
namespace Go.Shade
open Go.RowKit
set_option linter.unusedVariables false

section
variable {P : Program} {base : Nat} {call : CallSem}

/-- The operations as the text has them, one after the other. -/
structure Text (P : Program) (call : CallSem) (ops l : List Oper) (fo : Tr Value → Fr) (Tf : Nat → Tr Value) (nf : Nat → Nat) (Hf : Nat → Tr AObj) (vf : Nat → Value) (lf : Nat → List Acc) : Prop where
  ev : ∀ j o, l[j]? = some o → evVal P call ops o (fo (Tf j)) ⟨nf j, Hf j, nf j, []⟩ = some (vf j, ⟨nf (j + 1), Hf (j + 1), nf j, lf j⟩)
  put : ∀ j o, l[j]? = some o → (fo (Tf j)).put o.dst (vf j) = some (fo (Tf (j + 1)))

theorem evDraw_text (lc : LocalCall call) (ops : List Oper) (nt : Nat) (defs : List (FuncId × List Value)) (pan : Option Value) (recd : Bool) : ∀ (l : List Oper) (T : Tr Value) (n : Nat) (H : Tr AObj) (lim : Nat) (log : List Acc) (recs : List Rec) (fr' : Fr) (recs' : List Rec) (s' : S),
    evDraw P call ops l ⟨T, nt, defs, pan, recd⟩ recs ⟨n, H, lim, log⟩ = some ((fr', recs'), s') →
    ∃ Tf nf Hf vf lf, Tf 0 = T ∧ nf 0 = n ∧ Hf 0 = H ∧ fr' = ⟨Tf l.length, nt, defs, pan, recd⟩ ∧ s'.n = nf l.length ∧ s'.H = Hf l.length ∧ recs' = revl (fun j => (⟨nf j, nf (j + 1), lf j⟩ : Rec)) l.length ++ recs ∧ Text P call ops l (fun T => ⟨T, nt, defs, pan, recd⟩) Tf nf Hf vf lf
  | [], T, n, H, lim, log, recs, fr', recs', s', e => by
    simp only [evDraw] at e
    obtain ⟨e1, rfl⟩ := M.ret_some e
    cases e1
    exact ⟨fun _ => T, fun _ => n, fun _ => H, fun _ => undefV, fun _ => [], rfl, rfl, rfl, rfl, rfl, rfl, rfl, fun j o h => by simp at h, fun j o h => by simp at h⟩
  | o :: l, T, n, H, lim, log, recs, fr', recs', s', e => by
    simp only [evDraw] at e
    obtain ⟨r, s1, e1, e2⟩ := M.bnd_some e
    obtain ⟨v, n1, H1, lim1, log1, e3, rfl, rfl⟩ := sub_some e1
    obtain ⟨fr1, s2, e4, e5⟩ := M.bnd_some e2
    simp only [putO] at e4
    obtain ⟨e6, rfl⟩ := M.opt_some e4
    have hfr : ∃ T1, fr1 = ⟨T1, nt, defs, pan, recd⟩ := by
      cases hd : o.dst with
      | none => rw [hd] at e6; simp only [Fr.put, Option.some.injEq] at e6; exact ⟨T, e6.symm⟩
      | some d =>
        rw [hd] at e6
        simp only [Fr.put] at e6
        cases hb : Nat.blt d nt with
        | false => simp [hb] at e6
        | true => simp only [hb, Option.some.injEq] at e6; exact ⟨_, e6.symm⟩
    obtain ⟨T1, rfl⟩ := hfr
    have hlim : lim1 = n := (Local.evVal P lc ops o ⟨T, nt, defs, pan, recd⟩ _ _ _ _ _ _ _ _ _ e3 (Nat.le_refl _)).1
    subst hlim
    obtain ⟨Tf, nf, Hf, vf, lf, t0, n0, h0, rfl, g1, g2, g3, tx⟩ := evDraw_text lc ops nt defs pan recd l T1 n1 H1 lim _ _ fr' recs' s' e5
    refine ⟨fun j => match j with | 0 => T | j + 1 => Tf j, fun j => match j with | 0 => lim1 | j + 1 => nf j, fun j => match j with | 0 => H | j + 1 => Hf j, fun j => match j with | 0 => v | j + 1 => vf j, fun j => match j with | 0 => log1 | j + 1 => lf j,
      rfl, rfl, rfl, rfl, g1, g2, ?_, ?_, ?_⟩
    · rw [g3, List.length_cons, revl_shift, List.append_assoc]
      simp only [n0, List.singleton_append]
    · intro j o' ho
      cases j with
      | zero =>
        simp only [List.getElem?_cons_zero, Option.some.injEq] at ho
        subst ho
        simp only [n0, h0]
        exact e3
      | succ j => exact tx.ev j o' (by simpa using ho)
    · intro j o' ho
      cases j with
      | zero =>
        simp only [List.getElem?_cons_zero, Option.some.injEq] at ho
        subst ho
        simp only [t0]
        exact e6
      | succ j => exact tx.put j o' (by simpa using ho)

def WrB (nf : Nat → Nat) (lf : Nat → List Acc) (b j : Nat) : Prop := Wr (lf j) b ∨ (nf j ≤ b ∧ b < nf (j + 1))
def WrT (ops : List Oper) (t : Tmp) (j : Nat) : Prop := ∃ o, ops[j]? = some o ∧ o.dst = some t

/-- What stands once the operations X have been carried out. -/
structure DInv (P : Program) (base : Nat) (ops : List Oper) (Tf : Nat → Tr Value) (nf : Nat → Nat) (Hf : Nat → Tr AObj) (lf : Nat → List Acc) (m0 : Mp) (w0 : World) (a0 : Act)
    (X : Nat → Prop) (m : Mp) (K : Tr AObj) (a : Act) (w : World) : Prop where
  rel : HRel m K w base
  heap : ∀ b k, At X (WrB nf lf b) k → K.get b = (Hf k).get b
  tmps : ∀ t k, At X (WrT ops t) k → VRel m (tmpOf (Tf k) t) (a.tmps.getD t undef)
  fresh : ∀ j, j < ops.length → ¬ X j → ∀ b, nf j ≤ b → b < nf (j + 1) → m b = none
  ext : ∀ b, ¬ (nf 0 ≤ b ∧ b < nf ops.length) → m b = m0 b
  mle : MLe m0 m
  below : Below base w0 w
  defers : a.defers = a0.defers
  size : a.tmps.size = a0.tmps.size

structure DSet (P : Program) (base : Nat) (call : CallSem) (ops : Array Oper) (nt : Nat) (fo : Tr Value → Fr) (Tf : Nat → Tr Value) (nf : Nat → Nat) (Hf : Nat → Tr AObj) (vf : Nat → Value) (lf : Nat → List Acc) : Prop where
  ok : POk P
  cok : CallOK P base call
  mono : MonoCall call
  loc : LocalCall call
  text : Text P call ops.toList ops.toList fo Tf nf Hf vf lf
  fot : ∀ T, (fo T).tmps = T
  back : Back ops.toList
  apart : ∀ j oj, ops.toList[j]? = some oj → ∀ i oi, i < j → ops.toList[i]? = some oi → (bitsF ops.toList j).testBit i = true ∨ Apart ops.toList oi oj
  part : ∀ j, j < ops.toList.length → ∀ i, i < j → (bitsF ops.toList j).testBit i = true ∨ Rec.clash ⟨nf i, nf (i + 1), lf i⟩ ⟨nf j, nf (j + 1), lf j⟩ = false
  opd : ∀ o ∈ ops.toList, ∀ x ∈ o.op.operands.toList, okOpd P x = true
  nt : ∀ T, (fo T).nt = nt

variable {ops : Array Oper} {nt : Nat} {fo : Tr Value → Fr} {Tf : Nat → Tr Value} {nf : Nat → Nat} {Hf : Nat → Tr AObj} {vf : Nat → Value} {lf : Nat → List Acc}

theorem DSet.loc1 (D : DSet P base call ops nt fo Tf nf Hf vf lf) {j : Nat} {o : Oper} (ho : ops.toList[j]? = some o) : Loc1 (evVal P call ops.toList o (fo (Tf j))) (nf j) (Hf j) (nf j) (vf j) (nf (j + 1)) (Hf (j + 1)) (lf j) := by
  obtain ⟨_, δ, h1, h2⟩ := Local.evVal P D.loc ops.toList o (fo (Tf j)) _ _ _ _ _ _ _ _ _ (D.text.ev j o ho) (Nat.le_refl _)
  rw [List.append_nil] at h1
  subst h1; exact h2

theorem DSet.at (D : DSet P base call ops nt fo Tf nf Hf vf lf) {j : Nat} (hj : j < ops.toList.length) : ∃ o, ops.toList[j]? = some o := ⟨_, List.getElem?_eq_getElem hj⟩

theorem DSet.nmono (D : DSet P base call ops nt fo Tf nf Hf vf lf) : ∀ j i, i ≤ j → j ≤ ops.toList.length → nf i ≤ nf j := by
  intro j
  induction j with
  | zero => intro i hi _; rw [show i = 0 from by omega]; exact Nat.le_refl _
  | succ j ih =>
    intro i hi hj
    by_cases h : i = j + 1
    · subst h; exact Nat.le_refl _
    · obtain ⟨o, ho⟩ := D.at (j := j) (by omega)
      exact Nat.le_trans (ih i (by omega) (by omega)) (D.loc1 ho).le

theorem DSet.heapSteady (D : DSet P base call ops nt fo Tf nf Hf vf lf) (b : Nat) : ∀ j, j < ops.toList.length → ¬ WrB nf lf b j → (Hf (j + 1)).get b = (Hf j).get b := by
  intro j hj hw
  obtain ⟨o, ho⟩ := D.at hj
  have F := (D.loc1 ho).frame (log := []) (by rw [List.append_nil]; exact D.text.ev j o ho)
  exact F b (fun h => hw (.inl h)) (fun h => hw (.inr h))

theorem DSet.tmpPut (D : DSet P base call ops nt fo Tf nf Hf vf lf) {j : Nat} {o : Oper} (ho : ops.toList[j]? = some o) : (∀ d, o.dst = some d → d < nt ∧ Tf (j + 1) = (Tf j).set d (vf j)) ∧ (o.dst = none → Tf (j + 1) = Tf j) := by
  have h := D.text.put j o ho
  have hn := D.nt (Tf j)
  have h1 := D.fot (Tf j)
  have h2 := D.fot (Tf (j + 1))
  generalize fo (Tf j) = x at h hn h1
  generalize fo (Tf (j + 1)) = y at h h2
  obtain ⟨T, nt', defs, pan, recd⟩ := x
  simp only [] at hn h1
  subst hn h1
  constructor
  · intro d hd
    rw [hd] at h
    simp only [Fr.put] at h
    cases hb : Nat.blt d nt' with
    | false => simp [hb] at h
    | true =>
      simp only [hb, Option.some.injEq] at h
      subst h
      rw [Nat.blt_eq] at hb
      exact ⟨hb, h2.symm⟩
  · intro hd
    rw [hd] at h
    simp only [Fr.put, Option.some.injEq] at h
    subst h
    exact h2.symm

theorem DSet.tmpSteady (D : DSet P base call ops nt fo Tf nf Hf vf lf) (t : Tmp) : ∀ j, j < ops.toList.length → ¬ WrT ops.toList t j → tmpOf (Tf (j + 1)) t = tmpOf (Tf j) t := by
  intro j hj hw
  obtain ⟨o, ho⟩ := D.at hj
  obtain ⟨h1, h2⟩ := D.tmpPut ho
  cases hd : o.dst with
  | none => rw [h2 hd]
  | some d =>
    rw [(h1 d hd).2]
    have hne : t ≠ d := fun e => hw ⟨o, ho, by rw [hd, e]⟩
    unfold tmpOf
    rw [Tr.get_set_ne _ _ hne]

theorem clash_own {ri rj : Rec} {e : Acc} (he : e ∈ rj.log) (h1 : ri.n ≤ e.b) (h2 : e.b < ri.n') : ri.clash rj = true := by
  unfold Rec.clash
  rw [List.any_eq_true]
  exact ⟨e, he, by simp [Nat.ble_eq_true_of_le h1, Nat.blt_eq, h2]⟩
theorem clash_acc {ri rj : Rec} {d e : Acc} (hd : d ∈ ri.log) (he : e ∈ rj.log) (hb : d.b = e.b) (hw : d.wr = true ∨ e.wr = true) : ri.clash rj = true := by
  unfold Rec.clash
  rw [List.any_eq_true]
  refine ⟨e, he, ?_⟩
  simp only [Bool.or_eq_true, List.any_eq_true]
  refine .inr ⟨d, hd, ?_⟩
  unfold Acc.clash
  rw [hb]
  rcases hw with h | h <;> simp [h]

/-- One more operation, whose forerunners have been. -/
theorem DSet.next (D : DSet P base call ops nt fo Tf nf Hf vf lf) {m0 : Mp} {w0 : World} {a0 : Act} {X : Nat → Prop} {m : Mp} {K : Tr AObj} {a : Act} {w : World} (hnt : nt ≤ a0.tmps.size) (hG : Glob P m0)
    (I : DInv P base ops.toList Tf nf Hf lf m0 w0 a0 X m K a w) (hXN : ∀ j, X j → j < ops.toList.length)
    (hX : ∀ j, X j → ∀ o, ops.toList[j]? = some o → ∀ e ∈ o.after.toList, Region.binds .any e = true → X e.on)
    {i : Nat} {o : Oper} (ho : ops.toList[i]? = some o) (hi : ¬ X i) (hpre : ∀ e ∈ o.after.toList, Region.binds .any e = true → X e.on) :
    ∃ m' K' a' w', DInv P base ops.toList Tf nf Hf lf m0 w0 a0 (fun j => X j ∨ j = i) m' K' a' w' ∧
      ∀ (b : Frame) (k : List Item) (cs : List Frame) (rest : List Nat), Steps P (lone (b.at a (.inRegion ops (i :: rest) :: k)) cs w) (lone (b.at a' (.inRegion ops rest :: k)) cs w') := by
  have hiN : i < ops.toList.length := (List.getElem?_eq_some_iff.1 ho).1
  have ahead : ∀ j, (bitsF ops.toList i).testBit j = true → X j := fun j hj => bits_closed D.back hX i o ho hpre j hj
  have behind : ∀ j, X j → (bitsF ops.toList j).testBit i = true → False := by
    intro j hj hb
    obtain ⟨oj, hoj⟩ := D.at (hXN j hj)
    exact hi (bits_closed D.back hX j oj hoj (hX j hj oj hoj) i hb)
  have L := D.loc1 ho
  -- clashes are bound
  have clA : ∀ j, j < i → Rec.clash ⟨nf j, nf (j + 1), lf j⟩ ⟨nf i, nf (i + 1), lf i⟩ = true → X j := by
    intro j hj hcl
    rcases D.part i hiN j hj with h | h
    · exact ahead j h
    · rw [hcl] at h; cases h
  have clB : ∀ j, X j → i < j → Rec.clash ⟨nf i, nf (i + 1), lf i⟩ ⟨nf j, nf (j + 1), lf j⟩ = true → False := by
    intro j hj hij hcl
    rcases D.part j (hXN j hj) i hij with h | h
    · exact behind j hj h
    · rw [hcl] at h; cases h
  -- what is touched is as the text has it
  have touchA : ∀ e ∈ lf i, ∀ j, j < i → WrB nf lf e.b j → X j := by
    intro e he j hj hw
    refine clA j hj ?_
    rcases hw with ⟨d, hd, hd1, hd2⟩ | ⟨h1, h2⟩
    · exact clash_acc (d := d) (e := e) hd he hd2 (.inl hd1)
    · exact clash_own (e := e) he h1 h2
  have touchB : ∀ e ∈ lf i, ∀ j, X j → WrB nf lf e.b j → ¬ i < j := by
    intro e he j hj hw hij
    rcases hw with ⟨d, hd, hd1, hd2⟩ | ⟨h1, h2⟩
    · exact clB j hj hij (clash_acc (d := e) (e := d) he hd hd2.symm (.inr hd1))
    · have := L.old e he
      have := D.nmono j i (by omega) (by have := hXN j hj; omega)
      omega
  have hag : ∀ e ∈ lf i, K.get e.b = (Hf i).get e.b := by
    intro e he
    obtain ⟨k, hk⟩ := At.exists (WrB nf lf e.b) hXN
    rw [I.heap e.b k hk]
    exact (At.before (val := fun k => (Hf k).get e.b) (D.heapSteady e.b) hi (by omega) (touchA e he) (touchB e he) hk).symm
  obtain ⟨K', eK, k1, k2⟩ := L.again K [] hag (fun b h1 h2 => by omega)
  -- what is looked at too
  have lookA : ∀ t, looks ops.toList o t → VRel m (tmpOf (Tf i) t) (a.tmps.getD t undef) := by
    intro t ht
    obtain ⟨k, hk⟩ := At.exists (WrT ops.toList t) hXN
    have := At.before (val := fun k => tmpOf (Tf k) t) (D.tmpSteady t) hi (by omega) (fun j hj hw => by
      obtain ⟨oj, hoj, hd⟩ := hw
      rcases D.apart i o ho j oj hj hoj with h | h
      · exact ahead j h
      · exact absurd ht (h.1 t hd).1) (fun j hj hw hij => by
      obtain ⟨oj, hoj, hd⟩ := hw
      rcases D.apart j oj hoj i o hij ho with h | h
      · exact behind j hj h
      · exact absurd ht (h.2 t hd)) hk
    have this : tmpOf (Tf i) t = tmpOf (Tf k) t := this
    rw [this]
    exact I.tmps t k hk
  have hGm := hG.mono I.mle
  have hρ : ∀ x ∈ o.op.operands.toList, VRel m (evOpd (fo (Tf i)).tmps x) (a.eval x) := by
    intro x hx
    rw [D.fot]
    have hx2 := D.opd o (List.mem_of_getElem? ho) x hx
    cases x with
    | tmp t => exact lookA t (.inl hx)
    | const v => exact closed_rel m _ _ hx2
    | global g =>
      obtain ⟨l, h1, h2, h3⟩ := hGm g (by simpa [okOpd] using hx2)
      have := VRel.ptr (i := 0) h1
      rw [h2, h3] at this
      simpa [evOpd, Act.eval, Shade.ptr] using this
    | func f => exact .func .nil .nil
  have ho' : ops[i]? = some o := by rw [← Array.getElem?_toList]; exact ho
  have hg : wantedF ops.toList o.guard (fo (Tf i)).tmps = Region.wanted o (yielded ops a.tmps) := by
    rw [D.fot]
    refine wanted_rel fun j want d h1 h2 => lookA d (.inr ⟨j, want, h1, ?_⟩)
    unfold dstOf
    rw [nth_eq, Array.getElem?_toList]
    cases hq : ops[j]? with
    | none => rw [hq] at h2; cases h2
    | some oj => rw [hq] at h2; exact h2
  have hfr : Fresh m (nf i) (nf (i + 1)) := fun b h1 h2 => I.fresh i hiN hi b h1 h2
  obtain ⟨m', v', w', st, hv, hrun⟩ := sim_val D.ok D.cok D.mono ho' hρ hg (s := ⟨nf i, K, nf i, []⟩) I.rel hGm eK hfr
  have hle := st.ext.le hfr
  refine ⟨m', K', a.put o.dst v', w', ⟨st.rel, ?_, ?_, ?_, ?_, I.mle.trans hle, I.below.trans st.below, ?_, ?_⟩, hrun⟩
  · -- the heap
    intro b k hk
    by_cases hw : WrB nf lf b i
    · have hB : ∀ j, X j → WrB nf lf b j → ¬ i < j := by
        intro j hj hwj hij
        rcases hw with ⟨e, he, _, rfl⟩ | ⟨h1, h2⟩
        · exact touchB e he j hj hwj hij
        · rcases hwj with ⟨d, hd, _, rfl⟩ | ⟨h3, h4⟩
          · exact clB j hj hij (clash_own (e := d) hd h1 h2)
          · have := D.nmono j (i + 1) (by omega) (by have := hXN j hj; omega)
            omega
      have := At.wrote hw hB hk
      subst this
      exact k1 b (by rcases hw with h | h; exact .inl h; exact .inr h)
    · rw [k2 b (fun h => hw (.inl h)) (fun h => hw (.inr h))]
      exact I.heap b k (At.kept hw hk)
  · -- the temporaries
    intro t k hk
    obtain ⟨p1, p2⟩ := D.tmpPut ho
    by_cases hw : WrT ops.toList t i
    · obtain ⟨o', ho2, hd⟩ := hw
      rw [ho] at ho2; cases ho2
      have hk' := At.wrote (W := WrT ops.toList t) ⟨o, ho, hd⟩ (fun j hj hwj hij => by
        obtain ⟨oj, hoj, hdj⟩ := hwj
        rcases D.apart j oj hoj i o hij ho with h | h
        · exact behind j hj h
        · exact absurd hdj (h.1 t hd).2) hk
      subst hk'
      obtain ⟨hlt, e1⟩ := p1 t hd
      rw [e1, hd]
      have hsz := I.size
      have : t < a.tmps.size := Nat.lt_of_lt_of_le hlt (by rw [hsz]; exact hnt)
      simpa [tmpOf, Tr.get_set_eq, Act.put, this] using hv
    · have := I.tmps t k (At.kept hw hk)
      have hgd : (a.put o.dst v').tmps.getD t undef = a.tmps.getD t undef := by
        cases hd : o.dst with
        | none => rfl
        | some d =>
          have hne : d ≠ t := fun e => hw ⟨o, ho, by rw [hd, e]⟩
          simp [Act.put, Array.getElem?_setIfInBounds_ne hne]
      rw [hgd]
      exact this.mono hle
  · intro j hj hnj b h1 h2
    have hne : j ≠ i := fun e => hnj (.inr e)
    have hout : ¬ (nf i ≤ b ∧ b < nf (i + 1)) := by
      rintro ⟨h3, h4⟩
      rcases Nat.lt_or_ge j i with h5 | h5
      · have := D.nmono i (j + 1) (by omega) (by omega); omega
      · have := D.nmono j (i + 1) (by omega) (by omega); omega
    rw [st.ext b hout]
    exact I.fresh j hj (fun h => hnj (.inl h)) b h1 h2
  · intro b hb
    have h1 := D.nmono i 0 (by omega) (by omega)
    have h2 := D.nmono ops.toList.length (i + 1) (by omega) (Nat.le_refl _)
    rw [st.ext b (fun h => hb (by simp only [] at h; omega))]
    exact I.ext b hb
  · cases hd : o.dst with
    | none => exact I.defers
    | some d => exact I.defers
  · cases hd : o.dst with
    | none => exact I.size
    | some d => simpa [Act.put] using I.size
end
end Go.Shade
