/- From a run of the evaluator to 'Calls'. -/
import Derived.Test.YteailohgaoglnaaGreatDoorShadeZA
namespace Go.Shade
open Go.RowKit
set_option linter.unusedVariables false

def typeOk (i : TypeInfo) : Bool := match i.zero with
  | some z => closedV 8 z && Nat.beq i.size (cellsOf z).length
  | none => true
def funcOk (P : Program) (fn : Func) : Bool := match fn.body with
  | some c => !(fn.name == "runtime.NumGoroutine") && okC P c
  | none => true
def progOk (P : Program) : Bool := P.types.toList.all typeOk && P.funcs.toList.all (funcOk P) && P.follows .mixedOrders

theorem progOK_of {P : Program} (h : progOk P = true) : ProgOK P := by
  simp only [progOk, Bool.and_eq_true, List.all_eq_true] at h
  obtain ⟨⟨h1, h2⟩, h3⟩ := h
  have hz : ∀ t z, zero' P t = some z → ∃ i, P.types[t]? = some i ∧ i.zero = some z ∧ closedV 8 z = true ∧ i.size = (cellsOf z).length := by
    intro t z hz
    unfold zero' at hz
    cases hi : P.types[t]? with
    | none => simp [hi] at hz
    | some i =>
      simp only [hi] at hz
      have := h1 i (Array.mem_toList_iff.2 (Array.mem_of_getElem? hi))
      simp only [typeOk, hz, Bool.and_eq_true] at this
      exact ⟨i, rfl, hz, this.1, Nat.eq_of_beq_eq_true this.2⟩
  refine ⟨⟨fun t z hz' => ?_, fun t z hz' => ?_⟩, ?_, h3⟩
  · obtain ⟨_, _, _, h, _⟩ := hz t z hz'; exact h
  · obtain ⟨i, hi, _, _, h⟩ := hz t z hz'
    obtain ⟨q1, q2⟩ := Array.getElem?_eq_some_iff.1 hi
    have : P.info? t = some i := by simp [Tables.info?, q1, q2]
    simp [sizeOf', this, h]
  · intro f fn c hf hb
    have := h2 fn (Array.mem_toList_iff.2 (Array.mem_of_getElem? hf))
    simp only [funcOk, hb, Bool.and_eq_true, Bool.not_eq_true', beq_eq_false_iff_ne, ne_eq] at this
    exact this

/-- What is there before the call is read alone. -/
theorem HRel.init {W : World} {m : Mp} {H : Tr AObj} (h : ∀ b x, H.get b = some x → ∃ cs esz l c e fz, x = .cells cs false [] esz ∧ m b = some l ∧ l.esz = esz ∧ W.heap[l.cb]? = some (.cells c e fz) ∧ c.size = l.sz ∧ l.off + cs.length ≤ l.sz ∧ RowRel m cs c l.off) :
    HRel m H W W.heap.size := by
  have hno : ∀ a b, ¬ oldIn H a b := by
    rintro a b ⟨cs, rw, old, esz, hb, hin⟩
    obtain ⟨_, _, _, _, _, _, e, _⟩ := h _ _ hb
    cases e; cases hin
  refine ⟨Nat.le_refl _, ?_, ?_, ?_, ?_, ?_, fun a b hab => (hno a b hab).elim, fun a b hab => (hno a b hab).elim⟩
  · intro b cs rw old esz hb
    obtain ⟨cs', esz', l, c, e, fz, e1, h1, h2, h3, h4, h5, h6⟩ := h _ _ hb
    cases e1
    exact ⟨l, c, e, fz, h1, h2, h3, h4, h5, h6, by simp⟩
  · intro b s p hb
    obtain ⟨_, _, _, _, _, _, e, _⟩ := h _ _ hb
    cases e
  · intro b es hb
    obtain ⟨_, _, _, _, _, _, e, _⟩ := h _ _ hb
    cases e
  · intro a b l k ha _ _ hl _ _ hbase
    obtain ⟨x, hx, _⟩ := ha
    obtain ⟨_, _, l', c, e, fz, _, h1, _, h3, _⟩ := h _ _ hx
    rw [hl] at h1; cases h1
    have := (Array.getElem?_eq_some_iff.1 h3).1
    omega
  · intro a cs rw old esz b ds rw' old' esz' l k _ hb hin
    exact (hno a b ⟨_, _, _, _, hb, hin⟩).elim

/-- THE BRIDGE. -/
theorem calls_of_evF {P : Program} (pok : ProgOK P) {lf d f n lim : Nat} {args : List Value} {args' : Array Value} {H : Tr AObj} {log : List Acc} {v : Value} {recd : Bool} {s' : S} (e : evF P lf d f args none ⟨n, H, lim, log⟩ = some (.ret v recd, s'))
    {W : World} {m : Mp} (h : HRel m H W W.heap.size) (hG : Glob P m) (hf : ∀ b, n ≤ b → m b = none) (ha : VRelL m args args'.toList) :
    Calls P f args' W fun e w' => ∃ m' v', e = .returned v' ∧ VRel m' v v' ∧ HRel m' s'.H w' W.heap.size ∧ MLe m m' ∧ Below W.heap.size W w' := by
  have hfr : Fresh m n s'.n := fun b hb _ => hf b hb
  obtain ⟨m', w', st, v', hv, _, hrun⟩ := (callOK_evF pok W.heap.size lf d).run f args none _ _ _ m W args' none e hfr h hG ha (.inl ⟨rfl, rfl, rfl⟩)
  intro cs
  obtain ⟨fr, hs, h1, h2, h3, h4, fn, h5, h6⟩ := hrun .normal cs (.inl ⟨rfl, rfl⟩)
  have hcs : csOf none recd cs = cs := by cases recd <;> rfl
  rw [hcs] at hs
  exact ⟨.returned v', w', fr, ⟨m', v', rfl, hv, st.rel, st.ext.le hfr, st.below⟩, hs, h1, h3, h4, h2, fn, by rw [h1]; exact h5, h6⟩

/-- A run that yields true. -/
theorem calls_true {P : Program} (pok : ProgOK P) {lf d f n lim : Nat} {args : List Value} {args' : Array Value} {H : Tr AObj} {log : List Acc} {b : Bool} {recd : Bool} {s' : S} (e : evF P lf d f args none ⟨n, H, lim, log⟩ = some (.ret (.bool b) recd, s'))
    {W : World} {m : Mp} (h : HRel m H W W.heap.size) (hG : Glob P m) (hf : ∀ b, n ≤ b → m b = none) (ha : VRelL m args args'.toList) :
    Calls P f args' W fun e w' => e = .returned (.bool b) ∧ Below W.heap.size W w' :=
  (calls_of_evF pok e h hG hf ha).mono fun e w' ⟨m', v', he, hv, _, _, hb⟩ => ⟨by rw [he, hv.bool_inv], hb⟩

/-- The package-level variables, and rows that are handed over. -/
def mapOf (G : Nat) (sz : Nat → Nat) (ex : List Lc) : Mp := fun b => if b < G then some ⟨b, 0, sz b, 0⟩ else ex[b - G]?
theorem mapOf_glob {P : Program} (sz : Nat → Nat) (ex : List Lc) : Glob P (mapOf P.globals.size sz ex) := fun g hg => ⟨⟨g, 0, sz g, 0⟩, by simp [mapOf, hg], rfl, rfl⟩
theorem mapOf_fresh {G : Nat} {sz : Nat → Nat} {ex : List Lc} : ∀ b, G + ex.length ≤ b → mapOf G sz ex b = none := by
  intro b hb
  unfold mapOf
  rw [if_neg (by omega), List.getElem?_eq_none (by omega)]
theorem mapOf_ex {G : Nat} {sz : Nat → Nat} {ex : List Lc} (j : Nat) : mapOf G sz ex (G + j) = ex[j]? := by
  unfold mapOf
  rw [if_neg (by omega), show G + j - G = j from by omega]
end Go.Shade
