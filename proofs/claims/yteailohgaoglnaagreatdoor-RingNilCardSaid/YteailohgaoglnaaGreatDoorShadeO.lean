/- The evaluator's operations beside the model's. Part 5: append. -/
import Derived.Test.YteailohgaoglnaaGreatDoorShadeN
namespace Go.Shade
open Go.RowKit
set_option linter.unusedVariables false

section
variable {P : Program} {base : Nat} {m : Mp} {s : S} {w : World}

/-- append, where the capacity serves. -/
theorem run_append_in {ats : Array TypeId} {ty t u e : TypeId} {i : TypeInfo} (h0 : ats[0]? = some t) (h1 : ats[1]? = some u) (ht : P.underlying t = some (.slice e)) (hi : P.info? e = some i)
    (hu : (∃ q, P.underlying u = some (.slice q)) ∨ P.underlying u = some .string) {a : Addr} {sLen sCap n : Nat} {x' : Value} (hn : (Builtin.lenOf x').run P w = .ok n w) (hle : sLen + n ≤ sCap)
    {new : Array Value} (hnew : (Builtin.firstCells i.size n x').run P w = .ok new w) {w' : World} (hst : (storeCells (a.add (sLen * i.size)) new.toList).run P w = .ok () w') :
    (Builtin.append_ ats ty #[.slice (some a) sLen sCap, x']).run P w = .ok (.slice (some a) (sLen + n) sCap) w' := by
  rcases hu with ⟨q, hu⟩ | hu <;> simp [Builtin.append_, h0, h1, run_under ht, run_under hu, sizeOf, typeInfo, hi, hn, hle, hnew, hst]
theorem run_append_nil0 {ats : Array TypeId} {ty t u e : TypeId} {i : TypeInfo} (h0 : ats[0]? = some t) (h1 : ats[1]? = some u) (ht : P.underlying t = some (.slice e)) (hi : P.info? e = some i)
    (hu : (∃ q, P.underlying u = some (.slice q)) ∨ P.underlying u = some .string) {sLen sCap n : Nat} {x' : Value} (hn : (Builtin.lenOf x').run P w = .ok n w) (hle : sLen + n ≤ sCap)
    {new : Array Value} (hnew : (Builtin.firstCells i.size n x').run P w = .ok new w) :
    (Builtin.append_ ats ty #[.slice none sLen sCap, x']).run P w = .ok (.slice none (sLen + n) sCap) w := by
  rcases hu with ⟨q, hu⟩ | hu <;> simp [Builtin.append_, h0, h1, run_under ht, run_under hu, sizeOf, typeInfo, hi, hn, hle, hnew]

/-- append, where it does not. -/
theorem run_append_out {ats : Array TypeId} {ty t u e : TypeId} {i : TypeInfo} {z : Value} (h0 : ats[0]? = some t) (h1 : ats[1]? = some u) (ht : P.underlying t = some (.slice e)) (hi : P.info? e = some i)
    (hu : (∃ q, P.underlying u = some (.slice q)) ∨ P.underlying u = some .string) (hz : zero' P e = some z) {b' : Option Addr} {sLen sCap n : Nat} {x' : Value} (hn : ∀ w, (Builtin.lenOf x').run P w = .ok n w) (hle : ¬ sLen + n ≤ sCap)
    (hb : (sLen + n) * i.bytes ≤ 2 ^ 40) (hb1 : 1 ≤ i.bytes)
    {new old : Array Value} (hnew : ∀ w1 : World, w1.heap = w.heap → (Builtin.firstCells i.size n x').run P w1 = .ok new w1) (hold : ∀ w1 : World, w1.heap = w.heap → (Builtin.firstCells i.size sLen (.slice b' sLen sCap)).run P w1 = .ok old w1) :
    ∃ cap w1, sLen + n ≤ cap ∧ w1.heap = w.heap ∧ Below base w w1 ∧
      (Builtin.append_ ats ty #[.slice b' sLen sCap, x']).run P w = .ok (.slice (some ⟨w1.heap.size, 0, none⟩) (sLen + n) cap) { w1 with heap := w1.heap.push (.cells (old ++ new ++ Builtin.zeroCells z.cells (cap - (sLen + n))) e) } := by
  refine ⟨grownCap w (sLen + n) sCap e, w.drew, by simp [grownCap, Question.cut], rfl, ⟨rfl, rfl, rfl, Nat.le_refl _, fun _ _ => rfl⟩, ?_⟩
  have hlt : sLen + n ≤ 2 ^ 40 := Nat.le_trans (Nat.le_mul_of_pos_right _ hb1) hb
  have hgr : ¬ (281474976710656 < Builtin.nextslicecap (sLen + n) sCap * i.bytes) := by
    have := growslice_fits (need := sLen + n) (old := sCap) (bytes := i.bytes) (by omega) (by omega)
    omega
  have h63' : ¬ (9223372036854775807 < ((sLen : Int) + (n : Int))) := by omega
  have hby : ¬ i.bytes = 0 := by omega
  have hzi : ∃ i', P.info? e = some i' ∧ i'.zero = some z := by
    unfold zero' at hz
    cases hq : P.types[e]? with
    | none => simp [hq] at hz
    | some i' =>
      simp only [hq] at hz
      obtain ⟨q1, q2⟩ := Array.getElem?_eq_some_iff.1 hq
      exact ⟨i', by simp [Tables.info?, q1, q2], hz⟩
  obtain ⟨i', hi', hz'⟩ := hzi
  rw [hi] at hi'
  cases hi'
  rcases hu with ⟨q, hu⟩ | hu <;>
    simp [Builtin.append_, h0, h1, run_under ht, run_under hu, sizeOf, typeInfo, zeroValue, hi, hz', hn, hle, h63', hgr, hby, hnew w.drew rfl, hold w.drew rfl, Go.newRow, Question.forced, grownCap] <;> rfl

end
end Go.Shade
