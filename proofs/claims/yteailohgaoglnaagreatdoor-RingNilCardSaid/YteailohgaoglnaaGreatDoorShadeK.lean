/- The evaluator's operations beside the model's. Part 1: plain values. -/
import Derived.Test.YteailohgaoglnaaGreatDoorShadeJ
import Derived.Laws.StructEq
import Derived.Laws.Tables
import Derived.Laws.Entries
namespace Go.Shade
open Go.RowKit
set_option linter.unusedVariables false

/-- A value without any address. -/
def closedV : Nat → Value → Bool
  | 0, _ => false
  | d + 1, v => match v with
    | .agg cs => cs.toList.all (closedV d)
    | .tuple cs => cs.toList.all (closedV d)
    | .iface _ v => closedV d v
    | .func _ f c => f.toList.all (closedV d) && c.toList.all (closedV d)
    | .slice none 0 0 => true
    | v => atomic v

theorem closed_rel (m : Mp) : ∀ (d : Nat) (v : Value), closedV d v = true → VRel m v v
  | 0, _, h => by simp [closedV] at h
  | d + 1, v, h => by
    have hl : ∀ l : List Value, l.all (closedV d) = true → VRelL m l l := by
      intro l
      induction l with
      | nil => exact fun _ => .nil
      | cons x l ih =>
        intro h
        simp only [List.all_cons, Bool.and_eq_true] at h
        exact .cons (closed_rel m d x h.1) (ih h.2)
    unfold closedV at h
    split at h
    · exact .agg (hl _ h)
    · exact .tuple (hl _ h)
    · exact .iface (closed_rel m d _ h)
    · simp only [Bool.and_eq_true] at h; exact .func (hl _ h.1) (hl _ h.2)
    · exact .nilSlice
    · exact .atom h

/-- What is asked of a program's operands. -/
def okOpd (P : Program) : Operand → Bool
  | .const v => closedV 8 v
  | .global g => decide (g < P.globals.size)
  | _ => true

/-- The package-level variables lie where they lie. -/
def Glob (P : Program) (m : Mp) : Prop := ∀ g, g < P.globals.size → ∃ l, m g = some l ∧ l.cb = g ∧ l.off = 0
theorem Glob.mono {P : Program} {m m' : Mp} (h : Glob P m) (hm : MLe m m') : Glob P m' := fun g hg => let ⟨l, a, b⟩ := h g hg; ⟨l, hm _ _ a, b⟩

section
variable {P : Program} {base : Nat} {m : Mp} {s : S} {w : World}

theorem run_binInt (op : BinOp) (t : TypeId) (x y : Operand) (cst : Bool) (k k' : IntKind) (a b : Int) {v : Value} (h : binV P op t cst (.int k a) (.int k' b) = some v) :
    (do eqGuard op t x y (.int k a) (.int k' b); binOp op t (.int k a) (.int k' b)).run P w = .ok v w := by
  have hg : eqGuard op t x y (.int k a) (.int k' b) = pure () := by cases op <;> rfl
  rw [hg]
  simp only [Sem.run_bind, Sem.run_pure, Result.andThen_ok]
  unfold binV at h
  have hs : ∀ left : Bool, shiftOp left k a b = some v → ¬ b < 0 ∧ v = .int k (match left with | true => k.wrap (a * 2 ^ (min b.toNat k.bits)) | false => a.fdiv (2 ^ (min b.toNat k.bits))) := by
    intro left hh
    unfold shiftOp at hh
    by_cases hb : b < 0
    · simp [hb] at hh
    · simp only [hb, decide_false, mkInt_eq] at hh
      cases left <;> simp at hh <;> exact ⟨hb, hh.symm⟩
  cases op <;> simp only at h
  case shl => obtain ⟨h1, rfl⟩ := hs true h; simp [binOp, Op.shift, h1]
  case shr => obtain ⟨h1, rfl⟩ := hs false h; simp [binOp, Op.shift, h1]
  all_goals
    by_cases hk : k = k'
    · subst hk
      simp only [decide_true, intOp, mkInt_eq] at h
      first
        | (cases h; simp [binOp, Op.intArith, Op.intBits, Op.intCmp]; done)
        | (by_cases hb : b = 0
           · simp [hb] at h
           · simp [hb] at h; subst h; simp [binOp, Op.intDiv, hb])
    · simp [hk] at h

theorem run_binStr (op : BinOp) (t : TypeId) (x y : Operand) (cst : Bool) (a b : ByteArray) {v : Value} (h : binV P op t cst (.string a) (.string b) = some v) :
    (do eqGuard op t x y (.string a) (.string b); binOp op t (.string a) (.string b)).run P w = .ok v w := by
  have hg : eqGuard op t x y (.string a) (.string b) = pure () := by cases op <;> rfl
  rw [hg]
  simp only [Sem.run_bind, Sem.run_pure, Result.andThen_ok]
  simp only [binV, strOp] at h
  cases op <;> simp only at h <;> (try cases h) <;> (try (simp [binOp, Op.stringOp]; done))
  by_cases hb : ((a.size + b.size : Nat) : Int) > IntKind.i64.max
  · rw [decide_eq_true hb] at h; cases h
  · rw [decide_eq_false hb] at h
    simp only [Option.some.injEq] at h
    subst h
    simp only [binOp, Op.stringOp, if_neg hb]; rfl

theorem part_rel {t : TypeId} {cs cs' : Array Value} {off : Nat} {v : Value} (h : partV P t cs.toList off = some v) (hr : VRelL m cs.toList cs'.toList) :
    ∃ v', (part t cs' off).run P w = .ok v' w ∧ VRel m v v' := by
  unfold partV at h
  cases ha : isAgg' P t with
  | none => simp [ha] at h
  | some a =>
    cases a with
    | true =>
      cases hk : sizeOf' P t with
      | none => simp [ha, hk] at h
      | some k =>
        cases hrow : rowOf cs.toList off k with
        | none => simp [ha, hk, hrow] at h
        | some l =>
          simp only [ha, hk, hrow, Option.some.injEq] at h
          subst h
          refine ⟨.agg (cs'.extract off (off + k)), by simp [part, run_isAgg ha, run_sizeOf hk], .agg ?_⟩
          have hlen := hr.length
          have hq := rowOf_eq hrow
          refine VRelL.of_get ?_ fun i v hv => ?_
          · rw [hq.1]; simp at hlen ⊢; omega
          · have hi : i < k := by have := (List.getElem?_eq_some_iff.1 hv).1; have := rowOf_length hrow; simp at *; omega
            have hv2 : cs.toList[off + i]? = some v := by rw [← rowOf_get hrow i hi]; simpa using hv
            obtain ⟨v', a1, a2⟩ := hr.get hv2
            refine ⟨v', ?_, a2⟩
            have hlt := (List.getElem?_eq_some_iff.1 a1).1
            simp only [Array.length_toList] at hlt
            rw [Array.getElem?_toList, Array.getElem?_extract, if_pos (by omega)]
            simpa using a1
    | false =>
      simp only [ha, nth_eq] at h
      obtain ⟨v', a1, a2⟩ := hr.get h
      refine ⟨v', ?_, a2⟩
      have : cs'[off]? = some v' := by simpa using a1
      simp [part, run_isAgg ha, this]

theorem VRel.int_inv {k : IntKind} {n : Int} {v' : Value} (h : VRel m (.int k n) v') : v' = .int k n := by cases h; rfl
theorem VRel.bool_inv {b : Bool} {v' : Value} (h : VRel m (.bool b) v') : v' = .bool b := by cases h; rfl
theorem VRel.string_inv {b : ByteArray} {v' : Value} (h : VRel m (.string b) v') : v' = .string b := by cases h; rfl

set_option maxHeartbeats 2000000 in
theorem eq_run : ∀ (d e : Nat) (t : TypeId) (x y x' y' : Value) (b : Bool), d ≤ e → eqV P d t x y = some b → VRel m x x' → VRel m y y' → (Op.equalIn e t x' y').run P w = .ok b w
  | 0, _, _, _, _, _, _, _, _, h, _, _ => by simp [eqV] at h
  | d + 1, 0, _, _, _, _, _, _, hle, _, _, _ => by omega
  | d + 1, e + 1, t, x, y, x', y', b, hle, h, hx, hy => by
    have hfields : ∀ (fs : List Field) (xs ys xs' ys' : Array Value), eqV.eqFields P (eqV P d) fs xs.toList ys.toList = some b → VRelL m xs.toList xs'.toList → VRelL m ys.toList ys'.toList →
        (Op.eqFields e xs' ys' fs).run P w = .ok b w := by
      intro fs xs ys xs' ys' hh hxs hys
      induction fs with
      | nil => simp only [eqV.eqFields, Option.some.injEq] at hh; subst hh; rfl
      | cons f fs ih =>
        simp only [eqV.eqFields] at hh
        by_cases hn : f.name ≠ "_"
        · rw [decide_eq_true hn] at hh
          simp only at hh
          cases h1 : partV P f.type xs.toList f.offset with
          | none => simp [h1] at hh
          | some u =>
            cases h2 : partV P f.type ys.toList f.offset with
            | none => simp [h1, h2] at hh
            | some v =>
              simp only [h1, h2] at hh
              obtain ⟨u', r1, k1⟩ := part_rel (w := w) h1 hxs
              obtain ⟨v', r2, k2⟩ := part_rel (w := w) h2 hys
              cases h3 : eqV P d f.type u v with
              | none => simp [h3] at hh
              | some c =>
                have r3 := eq_run d e f.type u v u' v' c (by omega) h3 k1 k2
                simp only [h3] at hh
                cases c with
                | true => simp only [Op.eqFields, if_pos hn, Sem.run_bind, r1, r2, r3, Result.andThen_ok, if_true]; simpa using ih hh
                | false => cases hh; simp [Op.eqFields, if_pos hn, Sem.run_bind, r1, r2, r3]
        · rw [decide_eq_false hn] at hh
          simp only at hh
          simp only [Op.eqFields, if_neg hn]
          exact ih hh
    unfold eqV at h
    split at h
    · rename_i hu; cases hx; cases hy; cases h; simp [Op.equalIn, run_under hu]
    · rename_i hu; cases hx; cases hy
      split at h
      · rename_i hk; cases h; simp [Op.equalIn, run_under hu, hk]
      · cases h
    · rename_i hu; cases hx; cases hy; cases h; simp [Op.equalIn, run_under hu]
    · rename_i hu; cases hx; cases h; cases hy <;> simp [Op.equalIn, run_under hu]
    · rename_i hu; cases hy; cases h; cases hx with
      | atom k => simp [atomic] at k
      | ptr k => simp [Op.equalIn, run_under hu]
    · rename_i hu; cases hx; cases hy; cases h; simp [Op.equalIn, run_under hu]
    · rename_i hu; cases hx; cases h; cases hy with
      | atom k => simp [atomic] at k
      | iface k => simp [Op.equalIn, run_under hu]
    · rename_i hu; cases hy; cases h; cases hx with
      | atom k => simp [atomic] at k
      | iface k => simp [Op.equalIn, run_under hu]
    · rename_i fields xs ys hu
      cases hx with
      | atom k => simp [atomic] at k
      | agg kx =>
        cases hy with
        | atom k => simp [atomic] at k
        | agg ky =>
          cases hst : P.stoodInHeld t with
          | true => simp [hst] at h
          | false =>
            simp only [hst] at h
            have hfo : P.fieldsOf t = fields := by simp [Program.fieldsOf, hu]
            rw [run_equalIn_struct w e t _ _ (by rw [hfo]; exact hu) hst, hfo]
            exact hfields _ _ _ _ _ h kx ky
    · rename_i hu; cases h; cases hx with
      | atom k => simp [atomic] at k
      | nilSlice => cases hy with
        | atom k => simp [atomic] at k
        | _ => simp [Op.equalIn, run_under hu]
    · rename_i hu; cases h; cases hy with
      | atom k => simp [atomic] at k
      | nilSlice => cases hx with
        | atom k => simp [atomic] at k
        | _ => simp [Op.equalIn, run_under hu]
    · rename_i hu; cases hx; cases h; cases hy <;> simp [Op.equalIn, run_under hu]
    · rename_i hu; cases hy; cases h; cases hx with
      | atom k => simp [atomic] at k
      | map k => simp [Op.equalIn, run_under hu]
    · rename_i hu; cases hx; cases hy; cases h; simp [Op.equalIn, run_under hu]
    · rename_i hu; cases hx; cases h; cases hy with
      | atom k => simp [atomic] at k
      | func _ _ => simp [Op.equalIn, run_under hu]
    · rename_i hu; cases hy; cases h; cases hx with
      | atom k => simp [atomic] at k
      | func _ _ => simp [Op.equalIn, run_under hu]
    · cases h

theorem binV_atomic {op : BinOp} {t : TypeId} {cst : Bool} {a b v : Value} (h : binV P op t cst a b = some v) : atomic v = true := by
  have hi : ∀ (o : BinOp) k x y, intOp o k x y = some v → atomic v = true := by
    intro o k x y h
    cases o <;> simp only [intOp, mkInt_eq] at h <;> first | (cases h; rfl) | skip
    all_goals by_cases hy : y = 0 <;> simp [hy] at h <;> subst h <;> rfl
  have hs : ∀ l k x y, shiftOp l k x y = some v → atomic v = true := by
    intro l k x y h
    unfold shiftOp at h
    by_cases hy : y < 0
    · simp [hy] at h
    · cases l <;> simp [hy, mkInt_eq] at h <;> subst h <;> rfl
  unfold binV at h
  split at h
  · split at h
    · exact hs _ _ _ _ h
    · exact hs _ _ _ _ h
    · split at h
      · exact hi _ _ _ _ h
      · cases h
  · rename_i x y
    cases op <;> simp only [strOp] at h <;> first | (cases h; done) | (cases h; rfl) | skip
    by_cases hb : ((x.size + y.size : Nat) : Int) > IntKind.i64.max
    · rw [decide_eq_true hb] at h; cases h
    · rw [decide_eq_false hb] at h; cases h; rfl
  · cases h
  · cases h
  · split at h
    · split at h
      · split at h
        · cases h; rfl
        · cases h
      · cases h
    · split at h
      · split at h
        · cases h; rfl
        · cases h
      · cases h
    · cases h

theorem run_guard (op : BinOp) (t : TypeId) (x y : Operand) {a b a' b' : Value} (h : guardV P t (isConst' x || isConst' y) a b = true) (ha : VRel m a a') (hb : VRel m b b') :
    (eqGuard op t x y a' b').run P w = .ok () w := by
  have plain : eqGuard op t x y a' b' = pure () → (eqGuard op t x y a' b').run P w = .ok () w := fun e => by rw [e]; rfl
  cases ha with
  | agg k =>
    cases hb with
    | agg k2 =>
      simp only [guardV, Bool.not_eq_true'] at h
      exact run_eqGuard_agg w op t x y _ _ h
    | atom k2 => refine plain ?_; cases b <;> first | (simp [atomic] at k2; done) | (cases op <;> rfl)
    | _ => exact plain (by cases op <;> rfl)
  | atom k =>
    by_cases hna : a = .nilIface
    · subst hna
      cases hb with
      | atom k2 =>
        by_cases hnb : b = .nilIface
        · subst hnb
          simp only [guardV] at h
          cases op <;> first | (exact plain rfl) | (cases x <;> cases y <;> simp [isConst'] at h <;> simp [eqGuard])
        · refine plain ?_
          cases b <;> first | (exact absurd rfl hnb) | (simp [atomic] at k2; done) | (cases op <;> rfl)
      | _ => exact plain (by cases op <;> rfl)
    · refine plain ?_
      cases a <;> first | (exact absurd rfl hna) | (simp [atomic] at k; done) | (cases op <;> rfl)
  | _ => exact plain (by cases op <;> rfl)

theorem eqV_int {d : Nat} {t : TypeId} {k : IntKind} {n : Int} {b : Value} {c : Bool} (h : eqV P d t (.int k n) b = some c) : ∃ k' n', b = .int k' n' := by
  cases d with
  | zero => simp [eqV] at h
  | succ d => unfold eqV at h; split at h <;> first | (cases h; done) | exact ⟨_, _, rfl⟩ | (rename_i e; cases e) | (rename_i e _; cases e)
theorem eqV_string {d : Nat} {t : TypeId} {s : ByteArray} {b : Value} {c : Bool} (h : eqV P d t (.string s) b = some c) : ∃ q, b = .string q := by
  cases d with
  | zero => simp [eqV] at h
  | succ d => unfold eqV at h; split at h <;> first | (cases h; done) | exact ⟨_, rfl⟩ | (rename_i e; cases e) | (rename_i e _; cases e)

theorem run_eql_gen (t : TypeId) {a b a' b' : Value} {c : Bool} (h : eqV P 100 t a b = some c) (ha : VRel m a a') (hb : VRel m b b')
    (h1 : ∀ k n k' n', ¬ (a = .int k n ∧ b = .int k' n')) (h2 : ∀ p q, ¬ (a = .string p ∧ b = .string q)) (h3 : ∀ k x, a ≠ .float k x) (h4 : ∀ k x y, a ≠ .complex k x y) :
    (binOp .eql t a' b').run P w = .ok (.bool c) w ∧ (binOp .neq t a' b').run P w = .ok (.bool !c) w := by
  have he := eq_run (w := w) 100 10000 t a b a' b' c (by omega) h ha hb
  have fin : (binOp .eql t a' b' = (do pure (.bool (← Op.equal t a' b')))) → (binOp .neq t a' b' = (do pure (.bool (!(← Op.equal t a' b'))))) →
      (binOp .eql t a' b').run P w = .ok (.bool c) w ∧ (binOp .neq t a' b').run P w = .ok (.bool !c) w := by
    intro e1 e2
    rw [e1, e2]
    simp [Op.equal, Op.maxDepth, he]
  cases ha with
  | atom k =>
    cases a <;> simp [atomic] at k <;> (try exact fin rfl rfl)
    · obtain ⟨k', n', e⟩ := eqV_int h
      exact absurd ⟨rfl, e⟩ (h1 _ _ _ _)
    · exact absurd rfl (h3 _ _)
    · exact absurd rfl (h4 _ _ _)
    · obtain ⟨q, e⟩ := eqV_string h
      exact absurd ⟨rfl, e⟩ (h2 _ _)
  | ptr k => cases hb <;> exact fin rfl rfl
  | _ => exact fin rfl rfl

/-- Two operands' binary operation. -/
theorem run_bin (op : BinOp) (t : TypeId) (x y : Operand) {a b a' b' v : Value} (h : binV P op t (isConst' x || isConst' y) a b = some v) (ha : VRel m a a') (hb : VRel m b b') :
    (do eqGuard op t x y a' b'; binOp op t a' b').run P w = .ok v w ∧ VRel m v v := by
  refine ⟨?_, .atom (binV_atomic h)⟩
  have h0 := h
  unfold binV at h
  split at h
  · rename_i k n k' n'
    cases ha.int_inv; cases hb.int_inv
    exact run_binInt op t x y _ k k' n n' h0
  · rename_i p q
    cases ha.string_inv; cases hb.string_inv
    exact run_binStr op t x y _ p q h0
  · cases h
  · cases h
  · rename_i q1 q2 q3 q4
    have h1 : ∀ k n k' n', ¬ (a = .int k n ∧ b = .int k' n') := by
      rintro k n k' n' ⟨rfl, rfl⟩
      first | exact q1 _ _ _ _ rfl rfl | exact q2 _ _ _ _ rfl rfl | exact q3 _ _ _ _ rfl rfl | exact q4 _ _ _ _ rfl rfl | simp at *
    have h2 : ∀ p q, ¬ (a = .string p ∧ b = .string q) := by
      rintro p q ⟨rfl, rfl⟩
      first | exact q1 _ _ rfl rfl | exact q2 _ _ rfl rfl | exact q3 _ _ rfl rfl | exact q4 _ _ rfl rfl | simp at *
    have h3 : ∀ k x, a ≠ .float k x := by
      rintro k x rfl
      first | exact q1 _ _ rfl | exact q2 _ _ rfl | exact q3 _ _ rfl | exact q4 _ _ rfl
    have h4 : ∀ k x y, a ≠ .complex k x y := by
      rintro k x y rfl
      first | exact q1 _ _ _ rfl | exact q2 _ _ _ rfl | exact q3 _ _ _ rfl | exact q4 _ _ _ rfl
    split at h
    · cases hg : guardV P t (isConst' x || isConst' y) a b with
      | false => simp [hg] at h
      | true =>
        cases he : eqV P 100 t a b with
        | none => simp [hg, he] at h
        | some c =>
          simp only [hg, he, Option.some.injEq] at h
          subst h
          simp only [Sem.run_bind, run_guard _ t x y hg ha hb, Result.andThen_ok]
          exact (run_eql_gen t he ha hb h1 h2 h3 h4).1
    · cases hg : guardV P t (isConst' x || isConst' y) a b with
      | false => simp [hg] at h
      | true =>
        cases he : eqV P 100 t a b with
        | none => simp [hg, he] at h
        | some c =>
          simp only [hg, he, Option.some.injEq] at h
          subst h
          simp only [Sem.run_bind, run_guard _ t x y hg ha hb, Result.andThen_ok]
          exact (run_eql_gen t he ha hb h1 h2 h3 h4).2
    · cases h
end
end Go.Shade
