/- The evaluator's operations beside the model's. Part 2. -/
import Derived.Test.YteailohgaoglnaaGreatDoorShadeK
import Derived.Laws.MakeOwn
import Derived.Great.BuildSlice
namespace Go.Shade
open Go.RowKit
set_option linter.unusedVariables false

/-- What is asked of a program. -/
structure POk (P : Program) : Prop where
  zero : ∀ t z, zero' P t = some z → closedV 8 z = true
  zsize : ∀ t z, zero' P t = some z → sizeOf' P t = some (cellsOf z).length

def VR (m : Mp) (r : Res) (v : Value) : Prop := ∃ u, r = .val u ∧ VRel m u v

/-- What an operation comes to, beside the model's. -/
def Outc (P : Program) (m : Mp) (r : Res) (q : Result Next) (w' : World) : Prop := match r with
  | .val v => (∃ v', q = .ok (.value v') w' ∧ VRel m v v') ∨ (q = .ok .skip w' ∧ v = undefV)
  | .panic v => ∃ v', q = .halt (.panic v') w' ∧ VRel m v v'
  | .enter f args => ∀ fn, P.funcs[f]? = some fn → fn.body.isSome = true → fn.name ≠ "runtime.NumGoroutine" → ∃ args', q = .ok (.enter f args') w' ∧ VRelL m args args'.toList
  | .defer f args => ∃ c a, q = .ok (.defer { target := .fn (.func f) c, args := a }) w' ∧ VRelL m args (a ++ c).toList
  | .recover => q = .ok .recover w'

def SimOp (P : Program) (base : Nat) (m : Mp) (s : S) (w : World) (x : M Res) (y : Sem Next) : Prop :=
  ∀ r s', x s = some (r, s') → Fresh m s.n s'.n → ∃ m' w', Step base m m' s.n s'.n s'.H w w' ∧ Outc P m' r (y.run P w) w'

section
variable {P : Program} {base : Nat} {m : Mp} {s : S} {w : World}

theorem SimOp.val {x : M Res} {y : Sem Value} (h : Sim P base m s w x y VR) : SimOp P base m s w x (y >>= fun a => pure (.value a)) := by
  intro r s' e hf
  obtain ⟨m', b, w', h1, h2, u, rfl, h3⟩ := h r s' e hf
  exact ⟨m', w', h2, .inl ⟨b, by rw [Sem.run_bind, h1]; rfl, h3⟩⟩
theorem SimOp.skip {x : M Res} {y : Sem Unit} (h : Sim P base m s w x y fun _ r _ => r = .val undefV) : SimOp P base m s w x (y >>= fun _ => pure .skip) := by
  intro r s' e hf
  obtain ⟨m', b, w', h1, h2, rfl⟩ := h r s' e hf
  exact ⟨m', w', h2, .inr ⟨by rw [Sem.run_bind, h1]; rfl, rfl⟩⟩
theorem SimOp.fail {y : Sem Next} : SimOp P base m s w M.fail y := fun r s' e => (M.fail_some e).elim

theorem Sim.asVal {x : M Value} {y : Sem Value} (h : Sim P base m s w x y VRel) : Sim P base m s w (asVal x) y VR := by
  intro c s' e hf
  obtain ⟨a, s1, h1, h2⟩ := M.bnd_some e
  obtain ⟨rfl, rfl⟩ := M.ret_some h2
  obtain ⟨m', b, w', r1, st, hR⟩ := h a s' h1 hf
  exact ⟨m', b, w', r1, st, a, rfl, hR⟩
theorem Sim.retVal (h : HRel m s.H w base) {v v' : Value} {y : Sem Value} (hy : y.run P w = .ok v' w) (hv : VRel m v v') : Sim P base m s w (M.ret (.val v)) y VR := by
  intro r s' e hf
  obtain ⟨rfl, rfl⟩ := M.ret_some e
  exact ⟨m, v', w, hy, Step.refl h, v, rfl, hv⟩
theorem Sim.optVal (h : HRel m s.H w base) {o : Option Value} {y : Sem Value} (hy : ∀ v, o = some v → ∃ v', y.run P w = .ok v' w ∧ VRel m v v') : Sim P base m s w (optVal o) y VR := by
  cases o with
  | none => exact Sim.fail
  | some v => obtain ⟨v', h1, h2⟩ := hy v rfl; exact Sim.retVal h h1 h2
theorem Sim.opt (h : HRel m s.H w base) {o : Option Value} {y : Sem Value} (hy : ∀ v, o = some v → ∃ v', y.run P w = .ok v' w ∧ VRel m v v') : Sim P base m s w (M.opt o) y VRel := by
  intro r s' e hf
  obtain ⟨e1, rfl⟩ := M.opt_some e
  obtain ⟨v', h1, h2⟩ := hy r e1
  exact ⟨m, v', w, h1, Step.refl h, h2⟩
theorem SimOp.retVal (h : HRel m s.H w base) {v v' : Value} {y : Sem Next} (hy : y.run P w = .ok (.value v') w) (hv : VRel m v v') : SimOp P base m s w (M.ret (.val v)) y := by
  intro r s' e hf
  obtain ⟨rfl, rfl⟩ := M.ret_some e
  exact ⟨m, w, Step.refl h, .inl ⟨v', hy, hv⟩⟩

theorem sim_pick (h : HRel m s.H w base) {c a b c' a' b' : Value} (hc : VRel m c c') (ha : VRel m a a') (hb : VRel m b b') :
    SimOp P base m s w (opPick c a b) (do pure (.value (if ← asBool c' then a' else b'))) := by
  unfold opPick
  split
  · cases hc; exact SimOp.retVal h (by simp [asBool]) ha
  · cases hc; exact SimOp.retVal h (by simp [asBool]) hb
  · exact SimOp.fail

theorem AtNew.ptr {esz : Nat} {b : Nat} {a : Addr} (h : AtNew esz m b a) : VRel m (ptr b 0) (.pointer (some a)) := by
  obtain ⟨l, h1, h2, h3, rfl⟩ := h
  have := VRel.ptr (m := m) (b := b) (i := 0) h1
  rw [h2] at this
  exact this

theorem sim_newPtr (h : HRel m s.H w base) {cs : List Value} {c : Array Value} (t : TypeId) (hv : VRelL m cs c.toList) :
    Sim P base m s w (ptrTo (newRow cs [] 0)) (do pure (.pointer (some (← Go.newRow t c)))) VR :=
  Sim.map (sim_newRow h t 0 hv) fun m b a hr => ⟨_, rfl, hr.1.ptr⟩

theorem sim_alloc (ok : POk P) (h : HRel m s.H w base) (t : TypeId) : Sim P base m s w (opAlloc P t) (Instr.alloc t true (.tuple #[])) VR := by
  unfold opAlloc
  cases hz : zero' P t with
  | none => exact Sim.fail
  | some z =>
    refine Sim.run (sim_newPtr h t (closed_rel m 8 z (ok.zero t z hz)).cells) ?_
    simp [Instr.alloc, run_zero hz, newVar]
theorem sim_box (h : HRel m s.H w base) (t : TypeId) {v v' : Value} (hv : VRel m v v') : Sim P base m s w (opBox v) (Instr.box t v') VR :=
  sim_newPtr h t hv.cells

/-- Cells set one by one. -/
theorem foldl_set (off : Nat) : ∀ (l : List Value) (j : Nat) (cs : Array Value), off + j + l.length ≤ cs.size →
    ∃ r : Array Value, (l.zipIdx j).foldl (fun cs (x : Value × Nat) => cs.setIfInBounds (off + x.2) x.1) cs = r ∧ r.size = cs.size ∧ ∀ k, r[k]? = if off + j ≤ k ∧ k < off + j + l.length then l[k - (off + j)]? else cs[k]?
  | [], j, cs, _ => ⟨cs, rfl, rfl, fun k => by rw [if_neg (by simp)]⟩
  | v :: l, j, cs, h => by
    simp only [List.length_cons] at h
    obtain ⟨r, h1, h2, h3⟩ := foldl_set off l (j + 1) (cs.setIfInBounds (off + j) v) (by simp; omega)
    refine ⟨r, by simpa [List.zipIdx_cons] using h1, by simpa using h2, fun k => ?_⟩
    rw [h3, Array.getElem?_setIfInBounds]
    simp only [List.length_cons]
    by_cases a1 : k = off + j
    · subst a1; rw [if_neg (by omega), if_pos rfl, if_pos (by omega), if_pos (by omega)]; simp
    · by_cases a2 : off + (j + 1) ≤ k ∧ k < off + (j + 1) + l.length
      · rw [if_pos a2, if_pos (by omega), show k - (off + j) = (k - (off + (j + 1))) + 1 from by omega]; simp
      · rw [if_neg a2, if_neg (by omega), if_neg (by omega)]

inductive PRel (m : Mp) : List (Nat × Value) → List (Nat × Value) → Prop where
  | nil : PRel m [] []
  | cons {i : Nat} {v v' : Value} {l l' : List (Nat × Value)} : VRel m v v' → PRel m l l' → PRel m ((i, v) :: l) ((i, v') :: l')

theorem PRel.map {α : Type} (f : α → Nat) {g k : α → Value} : ∀ {l : List α}, (∀ x ∈ l, VRel m (g x) (k x)) → PRel m (l.map fun p => (f p, g p)) (l.map fun p => (f p, k p))
  | [], _ => .nil
  | x :: l, h => .cons (h x (by simp)) (PRel.map f fun y hy => h y (by simp [hy]))

theorem fill_rel {place place' : Nat → Option (Nat × Nat)} (hp : ∀ i p, place i = some p → place' i = some p) : ∀ {ps ps' : List (Nat × Value)}, PRel m ps ps' → ∀ {cs r : List Value} {cs' : Array Value},
    fillA place cs ps = some r → VRelL m cs cs'.toList → ∃ r' : Array Value, Instr.fill place' cs' ps' = some r' ∧ VRelL m r r'.toList
  | _, _, .nil, cs, r, cs', h, hr => by simp only [fillA, Option.some.injEq] at h; subst h; exact ⟨cs', rfl, hr⟩
  | _, _, .cons (i := i) (v := v) (v' := v') (l := l) (l' := l') hv hl, cs, r, cs', h, hr => by
    simp only [fillA] at h
    cases h1 : place i with
    | none => simp [h1] at h
    | some p =>
      obtain ⟨off, size⟩ := p
      simp only [h1] at h
      cases h2 : Nat.beq (cellsOf v).length size with
      | false => simp [h2] at h
      | true =>
        have h2' := Nat.eq_of_beq_eq_true h2
        simp only [h2] at h
        cases h3 : putAt off (cellsOf v) cs with
        | none => simp [h3] at h
        | some cs1 =>
          simp only [h3] at h
          have hvc := hv.cells
          have hlen := hvc.length
          have hpl := (putAt_eq _ _ _ _ h3).2
          have hcl := hr.length
          simp only [Array.length_toList] at hlen hcl
          obtain ⟨r1, k1, k2, k3⟩ := foldl_set off v'.cells.toList 0 cs' (by simp; omega)
          have hrel1 : VRelL m cs1 r1.toList := by
            refine VRelL.of_get (by rw [putAt_length h3]; simp; omega) fun j x hx => ?_
            rw [putAt_get h3] at hx
            rw [Array.getElem?_toList, k3 j]
            split at hx
            · rename_i hin
              obtain ⟨x', a1, a2⟩ := hvc.get hx
              exact ⟨x', by rw [if_pos (by simp; omega), ← a1]; congr 1, a2⟩
            · rename_i hin
              obtain ⟨x', a1, a2⟩ := hr.get hx
              exact ⟨x', by rw [if_neg (by simp; omega)]; simpa using a1, a2⟩
          obtain ⟨r', g1, g2⟩ := fill_rel hp hl h hrel1
          refine ⟨r', ?_, g2⟩
          simp only [Instr.fill, hp _ _ h1]
          rw [if_neg (by simp only [Bool.or_eq_true, decide_eq_true_eq]; omega)]
          rw [← Array.foldl_toList, Array.toList_zipIdx]
          rw [show (fun (cs : Array Value) (x : Value × Nat) => match x with | (c, j) => cs.setIfInBounds (off + j) c) = (fun cs x => cs.setIfInBounds (off + x.2) x.1) from rfl, k1]
          exact g1

theorem fieldPls_mapM : ∀ (fs : List Field) (l : List (Nat × Nat)), fieldPls P fs = some l → fs.mapM (fun f => (P.info? f.type).map fun i => (f.offset, i.size)) = some l
  | [], l, h => by simp [fieldPls] at h; simp [h]
  | f :: fs, l, h => by
    simp only [fieldPls] at h
    cases h1 : sizeOf' P f.type with
    | none => simp [h1] at h
    | some k =>
      cases h2 : fieldPls P fs with
      | none => simp [h1, h2] at h
      | some q =>
        simp only [h1, h2, Option.some.injEq] at h
        subst h
        unfold sizeOf' at h1
        cases hi : P.info? f.type with
        | none => simp [hi] at h1
        | some i =>
          simp [hi] at h1
          simp [List.mapM_cons, hi, h1, fieldPls_mapM fs q h2]

theorem sim_aggOf (h : HRel m s.H w base) {o : Option (List Value)} {y : Sem Value} (hy : ∀ cs, o = some cs → ∃ c : Array Value, y.run P w = .ok (.agg c) w ∧ VRelL m cs c.toList) : Sim P base m s w (aggOf o) y VR := by
  cases o with
  | none => exact Sim.fail
  | some cs => obtain ⟨c, h1, h2⟩ := hy cs rfl; exact Sim.retVal h h1 (.agg (by simpa using h2))

theorem sim_build (ok : POk P) (h : HRel m s.H w base) (t : TypeId) {ps : List (Nat × Value)} {ps' : Array (Nat × Value)} (hp : PRel m ps ps'.toList) : Sim P base m s w (opBuild P t ps) (Instr.build t ps') VR := by
  unfold opBuild
  cases hz : zero' P t with
  | none => exact Sim.fail
  | some z =>
    have hzr := (closed_rel m 8 z (ok.zero t z hz)).cells
    cases hu : P.underlying t with
    | none => exact Sim.fail
    | some d =>
      cases d <;> try exact Sim.fail
      case struct fields =>
        (try simp only [])
        cases hl : fieldPls P fields.toList with
        | none => exact Sim.fail
        | some l =>
          refine sim_aggOf h fun cs hcs => ?_
          obtain ⟨r', g1, g2⟩ := fill_rel (place' := fun i => l[i]?) (fun i p hi => by rw [nth_eq] at hi; exact hi) hp hcs hzr
          refine ⟨r', ?_, g2⟩
          simp [Instr.build, run_zero hz, run_under hu, Array.mapM_eq_mapM_toList, run_places w _ _ (fieldPls_mapM _ _ hl), g1]
      case array n e =>
        (try simp only [])
        cases hk : sizeOf' P e with
        | none => exact Sim.fail
        | some k =>
          refine sim_aggOf h fun cs hcs => ?_
          obtain ⟨r', g1, g2⟩ := fill_rel (place' := fun i => some (i * k, k)) (fun i p hi => hi) hp hcs hzr
          exact ⟨r', by simp [Instr.build, run_zero hz, run_under hu, run_sizeOf hk, g1], g2⟩

theorem zeros_eq (z : Array Value) : ∀ n, ((Array.range (n * z.size)).map (z[· % z.size]!)).toList = zeros z.toList n := by
  intro n
  apply List.ext_getElem?
  intro i
  have hz : ∀ n i, (zeros z.toList n)[i]? = if i < n * z.size then some (z[i % z.size]!) else none := by
    intro n
    induction n with
    | zero => intro i; simp [zeros]
    | succ n ih =>
      intro i
      simp only [zeros, List.getElem?_append, Array.length_toList]
      by_cases h1 : i < z.size
      · rw [if_pos h1, if_pos (by rw [Nat.succ_mul]; omega), Nat.mod_eq_of_lt h1]
        simp [h1]
      · rw [if_neg h1, ih]
        by_cases h2 : z.size = 0
        · rw [if_neg (by simp [h2]), if_neg (by simp [h2])]
        · rw [show i % z.size = (i - z.size) % z.size from Nat.mod_eq_sub_mod (by omega)]
          by_cases h3 : i - z.size < n * z.size
          · rw [if_pos h3, if_pos (by rw [Nat.succ_mul]; omega)]
          · rw [if_neg h3, if_neg (by rw [Nat.succ_mul]; omega)]
  rw [hz, Array.getElem?_toList, Array.getElem?_map]
  by_cases h : i < n * z.size
  · rw [if_pos h]; simp [h]
  · rw [if_neg h]; simp [Array.getElem?_eq_none, h]
theorem zeros_rel {l l' : List Value} (h : VRelL m l l') : ∀ n, VRelL m (zeros l n) (zeros l' n)
  | 0 => .nil
  | n + 1 => h.append (zeros_rel h n)
theorem zeros_length (l : List Value) : ∀ n, (zeros l n).length = n * l.length
  | 0 => by simp [zeros]
  | n + 1 => by simp [zeros, zeros_length l n, Nat.succ_mul, Nat.add_comm]

theorem cells_cellsOf (z : Value) : z.cells.toList = cellsOf z := by cases z <;> rfl

theorem madeZeros {e : TypeId} {z : Value} {k : Nat} (hk : z.cells.size = k) (n : Nat) : (madeCells z.cells (n * k)).toList = zeros (cellsOf z) n := by
  subst hk
  rw [← cells_cellsOf, ← zeros_eq]; rfl

theorem sim_newSlice (h : HRel m s.H w base) {cs : List Value} {c : Array Value} (t : TypeId) (esz l n : Nat) (hv : VRelL m cs c.toList) :
    Sim P base m s w (M.bnd (newRow cs [] esz) fun b => M.ret (.val (.slice (some ⟨b, 0, none⟩) l (2 * n + 1)))) (do pure (.slice (some (← Go.newRow t c)) l n)) VR :=
  Sim.map (sim_newRow h t esz hv) fun m b a hr => by
    obtain ⟨⟨k, h1, h2, h3, rfl⟩, _⟩ := hr
    have := VRel.sliceE (m := m) (b := b) (i := 0) (n := l) (c := n) h1
    rw [h2] at this
    exact ⟨_, rfl, this⟩

theorem sim_buildSlice (ok : POk P) (h : HRel m s.H w base) (t : TypeId) (len : Nat) {ps : List (Nat × Value)} {ps' : Array (Nat × Value)} (hp : PRel m ps ps'.toList) :
    Sim P base m s w (opBuildSlice P t len ps) (Instr.buildSlice t len ps') VR := by
  unfold opBuildSlice
  cases hu : P.underlying t with
  | none => exact Sim.fail
  | some d =>
    cases d <;> try exact Sim.fail
    case slice e =>
      (try simp only [])
      cases hk : sizeOf' P e with
      | none => exact Sim.fail
      | some k =>
        cases hz : zero' P e with
        | none => exact Sim.fail
        | some z =>
          (try simp only [])
          cases hb : Nat.ble (len * k) (2 ^ 24) with
          | false => exact Sim.fail
          | true =>
            (try simp only [])
            cases hf : fillA (fun i => some (i * k, k)) (zeros (cellsOf z) len) ps with
            | none => exact Sim.fail
            | some cs =>
              have hzs := ok.zsize e z hz
              rw [hk] at hzs
              have hk2 : z.cells.size = k := by rw [← Array.length_toList, cells_cellsOf]; simpa using hzs.symm
              have hi : ∃ ie, P.info? e = some ie ∧ ie.size = k ∧ ie.zero = some z := by
                unfold zero' at hz
                cases ht : P.types[e]? with
                | none => simp [ht] at hz
                | some i =>
                  simp only [ht] at hz
                  obtain ⟨q1, q2⟩ := Array.getElem?_eq_some_iff.1 ht
                  have hie : P.info? e = some i := by simp [Tables.info?, q1, q2]
                  refine ⟨i, hie, ?_, hz⟩
                  simp [sizeOf', hie] at hk; exact hk
              obtain ⟨ie, hie, hisz, hiz⟩ := hi
              have hzr : VRelL m (zeros (cellsOf z) len) (madeCells z.cells (len * k)).toList := by
                rw [madeZeros (e := e) hk2]; exact zeros_rel (by have := (closed_rel m 8 z (ok.zero e z hz)).cells; rw [cells_cellsOf] at this; exact this) len
              obtain ⟨r', g3, g4⟩ := fill_rel (place' := fun i => some (i * k, k)) (fun i p hi => hi) hp hf hzr
              refine Sim.run (sim_newSlice h e 0 len len g4) ?_
              have hle := Nat.le_of_ble_eq_true hb
              subst hisz
              by_cases h0 : len * ie.size = 0
              · have hm : madeCells z.cells (len * ie.size) = #[] := by rw [h0]; simp [madeCells]
                rw [hm] at g3
                simp [Instr.buildSlice, run_under hu, run_sizeOf hk, h0, g3, Go.newRow, Array.range_zero']
              · rw [run_buildSlice w t e len ps' r' ie z hu hie hiz (by omega) h0 g3]
                rfl

theorem sim_makeSlice (ok : POk P) (h : HRel m s.H w base) (t : TypeId) {l c l' c' : Value} (hl : VRel m l l') (hc : VRel m c c') : Sim P base m s w (opMakeSlice P t l c) (Instr.makeSlice t l' c') VR := by
  unfold opMakeSlice
  cases hu : P.underlying t with
  | none => exact Sim.fail
  | some d =>
    cases d <;> try exact Sim.fail
    case slice e =>
      (try simp only [])
      cases hnl : nat? l with
      | none => exact Sim.fail
      | some ln =>
        cases hnc : nat? c with
        | none => exact Sim.fail
        | some cn =>
          (try simp only [])
          cases hi : P.info? e with
          | none => exact Sim.fail
          | some info =>
            cases hz : zero' P e with
            | none => exact Sim.fail
            | some z =>
              (try simp only [])
              cases hb : Nat.ble ln cn && Nat.ble (cn * info.bytes) (2 ^ 40) && Nat.ble cn (2 ^ 40) with
              | false => exact Sim.fail
              | true =>
                simp only [Bool.and_eq_true] at hb
                obtain ⟨⟨b1, b2⟩, b3⟩ := hb
                have b1 := Nat.le_of_ble_eq_true b1
                have b2 := Nat.le_of_ble_eq_true b2
                have b3 := Nat.le_of_ble_eq_true b3
                obtain ⟨kl, rfl⟩ : ∃ k, l = .int k (.ofNat ln) := by unfold nat? at hnl; split at hnl <;> simp at hnl; subst hnl; exact ⟨_, rfl⟩
                obtain ⟨kc, rfl⟩ : ∃ k, c = .int k (.ofNat cn) := by unfold nat? at hnc; split at hnc <;> simp at hnc; subst hnc; exact ⟨_, rfl⟩
                cases hl.int_inv; cases hc.int_inv
                have hzs := ok.zsize e z hz
                have hk : sizeOf' P e = some info.size := by simp [sizeOf', hi]
                rw [hk] at hzs
                have hk2 : z.cells.size = info.size := by rw [← Array.length_toList, cells_cellsOf]; simpa using hzs.symm
                have hiz : info.zero = some z := by
                  unfold zero' at hz
                  cases ht : P.types[e]? with
                  | none => simp [ht] at hz
                  | some i =>
                    simp only [ht] at hz
                    obtain ⟨q1, q2⟩ := Array.getElem?_eq_some_iff.1 ht
                    have hie : P.info? e = some i := by simp [Tables.info?, q1, q2]
                    rw [hi] at hie; cases hie; exact hz
                have hzr : VRelL m (zeros (cellsOf z) cn) (madeCells z.cells (cn * info.size)).toList := by
                  rw [madeZeros (e := e) hk2]; exact zeros_rel (by have := (closed_rel m 8 z (ok.zero e z hz)).cells; rw [cells_cellsOf] at this; exact this) cn
                simp only [mkSlice_eq]
                refine Sim.run (sim_newSlice h e info.size ln cn hzr) ?_
                have hcb : (info.bytes : Int) * (cn : Int) ≤ 281474976710656 := by
                  have : ((cn * info.bytes : Nat) : Int) ≤ ((2 ^ 40 : Nat) : Int) := by exact_mod_cast b2
                  rw [Int.mul_comm]
                  have h2 : ((cn * info.bytes : Nat) : Int) = (cn : Int) * (info.bytes : Int) := by simp
                  rw [← h2]; omega
                rw [run_make w t e info z hu hi hiz kl kc (Int.ofNat ln) (Int.ofNat cn) (by simp) (by simpa using b1) hcb (by simp; omega)]
                rfl

theorem addrOf_some {v : Value} {b i : Nat} (h : addrOf v = some (b, i)) : v = .pointer (some ⟨b, i, none⟩) := by
  unfold addrOf at h
  split at h
  · cases h; rfl
  · cases h
theorem VRel.ptr_inv {b i : Nat} {v' : Value} (h : VRel m (.pointer (some ⟨b, i, none⟩)) v') : ∃ l, m b = some l ∧ v' = .pointer (some ⟨l.cb, l.off + i, none⟩) := by
  cases h with
  | atom k => simp [atomic] at k
  | ptr k => exact ⟨_, k, rfl⟩

theorem sim_load (h : HRel m s.H w base) (t : TypeId) {a a' : Value} (ha : VRel m a a') : Sim P base m s w (opLoad P t a) (Instr.loadAt t a') VR := by
  unfold opLoad
  cases hA : addrOf a with
  | none => exact Sim.fail
  | some p =>
    obtain ⟨b, i⟩ := p
    have := addrOf_some hA
    subst this
    obtain ⟨l, h1, rfl⟩ := ha.ptr_inv
    exact Sim.run (Sim.asVal (sim_loadV h t h1)) (by simp [Instr.loadAt, Instr.sureAddr])
theorem sim_store (h : HRel m s.H w base) (t : TypeId) {a a' x x' : Value} (ha : VRel m a a') (hx : VRel m x x') : Sim P base m s w (opStore P t a x) (Instr.storeAt t a' x') fun _ r _ => r = .val undefV := by
  unfold opStore
  cases hA : addrOf a with
  | none => exact Sim.fail
  | some p =>
    obtain ⟨b, i⟩ := p
    have := addrOf_some hA
    subst this
    obtain ⟨l, h1, rfl⟩ := ha.ptr_inv
    intro r s' e hf
    obtain ⟨u, s1, h2, h3⟩ := M.bnd_some e
    obtain ⟨rfl, rfl⟩ := M.ret_some h3
    obtain ⟨m', b', w', r1, st, _⟩ := sim_storeV (P := P) h t h1 hx u s' h2 hf
    exact ⟨m', (), w', by simp [Instr.storeAt, Instr.sureAddr, r1], st, rfl⟩

theorem run_nilDeref {α : Type} : (runtimePanic .nilDeref : Sem α).run P w = .halt (.panic (nilDeref P)) w := by
  simp [runtimePanic, nilDeref]

theorem sim_nilCheck (h : HRel m s.H w base) {o : Oper} {x : Operand} {ρ' : Operand → Value} {a : Value} (ho : o.op = .nilCheck x) (ha : VRel m a (ρ' x)) : SimOp P base m s w (opNilCheck P a) (execOp ρ' o) := by
  generalize hv : ρ' x = v' at ha
  have hpan : (v' = .pointer none ∨ v' = .nilIface ∨ v' = .nilFunc) → SimOp P base m s w (M.ret (.panic (nilDeref P))) (execOp ρ' o) := by
    intro hh r s' e hf
    obtain ⟨rfl, rfl⟩ := M.ret_some e
    refine ⟨m, w, Step.refl h, nilDeref P, ?_, .iface (.atom rfl)⟩
    rcases hh with rfl | rfl | rfl <;> simp only [execOp, ho, hv] <;> exact run_nilDeref
  unfold opNilCheck
  split
  · exact hpan (by cases ha; exact .inl rfl)
  · exact hpan (by cases ha; exact .inr (.inl rfl))
  · exact hpan (by cases ha; exact .inr (.inr rfl))
  · exact SimOp.fail
  · rename_i h1 h2 h3 h4
    refine SimOp.retVal h ?_ ha
    simp only [execOp, ho, hv]
    cases ha with
    | atom k =>
      cases a <;> first | rfl | (simp [atomic] at k; done) | (exact absurd rfl h2) | (exact absurd rfl h3) | (rename_i q; cases q <;> first | exact absurd rfl h1 | rfl | simp [atomic] at k)
    | func _ _ => rename_i fn f f' c c' _ _; cases fn <;> first | rfl | exact absurd rfl (h4 _ _ _)
    | _ => rfl

theorem run_un {op : UnOp} {a a' v : Value} (h : unV op a = some v) (ha : VRel m a a') : (Op.unary op a').run P w = .ok v w ∧ VRel m v v := by
  unfold unV at h
  split at h
  · cases ha.int_inv; simp only [mkInt_eq, Option.some.injEq] at h; subst h; exact ⟨by simp [Op.unary, Op.intArith], .atom rfl⟩
  · cases ha.int_inv; simp only [mkInt_eq, Option.some.injEq] at h; subst h; exact ⟨by simp [Op.unary, Op.intBits], .atom rfl⟩
  · cases ha.bool_inv; cases h; exact ⟨by simp [Op.unary], .atom rfl⟩
  · cases h

theorem sim_iface (h : HRel m s.H w base) (t : TypeId) {a a' : Value} (ha : VRel m a a') : Sim P base m s w (opIface P t a) (Instr.makeInterface t a') VR := by
  unfold opIface
  cases hu : P.underlying t with
  | none => exact Sim.fail
  | some d =>
    cases d <;> first | exact Sim.fail | exact Sim.retVal h (by simp [Instr.makeInterface, run_under hu]) (.iface ha)

theorem fieldAddr_place {f : Field} {k l : Nat} {cb : Nat} (hk : sizeOf' P f.type = some (k + 1)) : (fieldPlace ⟨cb, l, none⟩ f).run P w = .ok ⟨cb, l + f.offset, none⟩ w := by
  simp [fieldPlace, run_sizeOf hk, Addr.add_plain]

theorem sim_fieldAddr (h : HRel m s.H w base) (t : TypeId) (f : Nat) {a a' : Value} (ha : VRel m a a') : Sim P base m s w (opFieldAddr P t a f) (Instr.fieldAt t a' f) VR := by
  unfold opFieldAddr
  cases hu : P.underlying t with
  | none => exact Sim.fail
  | some d =>
    cases hA : addrOf a with
    | none => cases d <;> exact Sim.fail
    | some p =>
      obtain ⟨b, i⟩ := p
      have := addrOf_some hA
      subst this
      obtain ⟨l, h1, rfl⟩ := ha.ptr_inv
      cases d <;> try exact Sim.fail
      case struct fields =>
        (try simp only [])
        cases hfd : fields[f]? with
        | none => exact Sim.fail
        | some fd =>
          (try simp only [])
          cases hk : sizeOf' P fd.type with
          | none => exact Sim.fail
          | some k =>
            cases k with
            | zero => exact Sim.fail
            | succ k =>
              simp only [force_eq]
              refine Sim.retVal h (v' := .pointer (some ⟨l.cb, l.off + (i + fd.offset), none⟩)) ?_ (.ptr h1)
              simp [Instr.fieldAt, run_under hu, hfd, Instr.sureAddr, fieldAddr_place hk, Nat.add_assoc]

theorem VRel.agg_inv {c : Array Value} {v' : Value} (h : VRel m (.agg c) v') : ∃ c', v' = .agg c' ∧ VRelL m c.toList c'.toList := by
  cases h with
  | atom k => simp [atomic] at k
  | agg k => exact ⟨_, rfl, k⟩
theorem VRel.tuple_inv {c : Array Value} {v' : Value} (h : VRel m (.tuple c) v') : ∃ c', v' = .tuple c' ∧ VRelL m c.toList c'.toList := by
  cases h with
  | atom k => simp [atomic] at k
  | tuple k => exact ⟨_, rfl, k⟩

theorem sim_field (h : HRel m s.H w base) (t : TypeId) (f : Nat) {a a' : Value} (ha : VRel m a a') : Sim P base m s w (opField P t a f) (Instr.field t a' f) VR := by
  unfold opField
  cases hu : P.underlying t with
  | none => exact Sim.fail
  | some d =>
    cases d <;> try exact Sim.fail
    case struct fields =>
      cases a <;> try exact Sim.fail
      case agg cs =>
        obtain ⟨c', rfl, hc⟩ := ha.agg_inv
        (try simp only [])
        cases hfd : fields[f]? with
        | none => exact Sim.fail
        | some fd =>
          refine Sim.optVal h fun v hv => ?_
          obtain ⟨v', r1, r2⟩ := part_rel (w := w) hv hc
          exact ⟨v', by simp [Instr.field, run_under hu, hfd, asAgg, r1], r2⟩

theorem nat?_some {v : Value} {n : Nat} (h : nat? v = some n) : ∃ k, v = .int k (.ofNat n) := by
  unfold nat? at h
  split at h
  · cases h; exact ⟨_, rfl⟩
  · cases h

theorem sim_index (h : HRel m s.H w base) (t : TypeId) {a a' i i' : Value} (ha : VRel m a a') (hi : VRel m i i') : Sim P base m s w (opIndex P t a i) (Instr.index t a' i') VR := by
  unfold opIndex
  cases hu : P.underlying t with
  | none => exact Sim.fail
  | some d =>
    cases hn : nat? i with
    | none => cases d <;> cases a <;> exact Sim.fail
    | some j =>
      obtain ⟨k, rfl⟩ := nat?_some hn
      cases hi.int_inv
      cases d <;> try exact Sim.fail
      case array n e =>
        cases a <;> try exact Sim.fail
        case agg cs =>
          obtain ⟨c', rfl, hc⟩ := ha.agg_inv
          (try simp only [])
          cases hk : sizeOf' P e with
          | none => exact Sim.fail
          | some k =>
            cases hb : Nat.blt j n with
            | false => exact Sim.fail
            | true =>
              rw [Nat.blt_eq] at hb
              refine Sim.optVal h fun v hv => ?_
              obtain ⟨v', r1, r2⟩ := part_rel (w := w) hv hc
              refine ⟨v', ?_, r2⟩
              simp only [Instr.index, asIntOf, Sem.run_bind, Sem.run_pure, Result.andThen_ok, run_under hu]
              rw [if_pos (by constructor <;> simp; omega)]
              simp only [Sem.run_bind, run_sizeOf hk, Result.andThen_ok]
              exact r1
      case string =>
        cases a <;> try exact Sim.fail
        case string str =>
          cases ha.string_inv
          (try simp only [])
          cases hb : nth str.data.toList j with
          | none => exact Sim.fail
          | some b =>
            rw [nth_eq] at hb
            refine Sim.retVal h (v' := .int .u8 b.toNat) ?_ (.atom rfl)
            have hb2 : str[j]? = some b := by
              obtain ⟨q1, q2⟩ := List.getElem?_eq_some_iff.1 hb
              have hlt : j < str.size := by simpa using q1
              have : str[j]? = some str[j] := getElem?_pos str j hlt
              rw [this]
              congr 1
            simp [Instr.index, asIntOf, run_under hu, hb2]

theorem sim_ptrAt (h : HRel m s.H w base) {b i n e j : Nat} {l : Lc} (hl : m b = some l) {y : Sem Value} (hy : ∀ k, sizeOf' P e = some k → j < n → y.run P w = .ok (.pointer (some ⟨l.cb, l.off + i + j * k, none⟩)) w) :
    Sim P base m s w (ptrAt P b i n e j) y VR := by
  unfold ptrAt
  cases hk : sizeOf' P e with
  | none => exact Sim.fail
  | some k =>
    cases hb : Nat.blt j n with
    | false => exact Sim.fail
    | true =>
      rw [Nat.blt_eq] at hb
      simp only [force_eq]
      exact Sim.retVal h (hy k hk hb) (by rw [Nat.add_assoc]; exact .ptr hl)

theorem sim_indexAddr (h : HRel m s.H w base) (t : TypeId) {a a' i i' : Value} (ha : VRel m a a') (hi : VRel m i i') : Sim P base m s w (opIndexAddr P t a i) (Instr.indexAt t a' i') VR := by
  unfold opIndexAddr
  split
  · rename_i n e b o j hu hn
    obtain ⟨l, h1, rfl⟩ := ha.ptr_inv
    obtain ⟨k, rfl⟩ := nat?_some hn
    cases hi.int_inv
    refine sim_ptrAt h h1 fun k hk hlt => ?_
    simp only [Instr.indexAt, asIntOf, Instr.sureAddr, Sem.run_bind, Sem.run_pure, Result.andThen_ok, run_under hu]
    rw [if_pos (by constructor <;> simp; omega)]
    simp [run_sizeOf hk, Addr.add_plain]
  · rename_i e b o n c j hu hn
    obtain ⟨k, rfl⟩ := nat?_some hn
    cases hi.int_inv
    have key : ∀ (l : Lc) (c' : Nat), m b = some l → Sim P base m s w (ptrAt P b o n e j) (Instr.indexAt t (.slice (some ⟨l.cb, l.off + o, none⟩) n c') (.int k (.ofNat j))) VR := by
      intro l c' h1
      refine sim_ptrAt h h1 fun k hk hlt => ?_
      simp only [Instr.indexAt, asIntOf, Instr.sureAddr, Sem.run_bind, Sem.run_pure, Result.andThen_ok, run_under hu]
      rw [if_pos (by constructor <;> simp; omega)]
      simp [run_sizeOf hk, Addr.add_plain]
    cases ha with
    | atom k => simp [atomic] at k
    | sliceE h1 => exact key _ _ h1
    | sliceI h1 _ _ _ _ => exact key _ _ h1
  · exact Sim.fail

theorem sim_extract (h : HRel m s.H w base) (i : Nat) {a a' : Value} (ha : VRel m a a') : Sim P base m s w (opExtract a i) (Instr.extract a' i) VR := by
  unfold opExtract
  cases a <;> try exact Sim.fail
  case tuple vs =>
    obtain ⟨c', rfl, hc⟩ := ha.tuple_inv
    refine Sim.optVal h fun v hv => ?_
    rw [nth_eq] at hv
    obtain ⟨v', r1, r2⟩ := hc.get hv
    refine ⟨v', ?_, r2⟩
    have : c'[i]? = some v' := by simpa using r1
    simp [Instr.extract, this]

theorem sim_assert (ok : POk P) (h : HRel m s.H w base) (st asserted : TypeId) (okk : Bool) {a a' : Value} (ha : VRel m a a') : Sim P base m s w (opAssert P a asserted okk) (Instr.typeAssert a' st asserted okk) VR := by
  have hnot : ∀ {d : TypeDesc} {st' dy : Option TypeId}, P.underlying asserted = some d → (∀ y : Sem Value, (∀ z, zero' P asserted = some z → okk = true → y.run P w = .ok (.tuple #[z, .bool false]) w) → Sim P base m s w (notThat P asserted okk) y VR) := by
    intro d st' dy hu y hy
    unfold notThat
    cases okk with
    | false => cases zero' P asserted <;> exact Sim.fail
    | true =>
      cases hz : zero' P asserted with
      | none => exact Sim.fail
      | some z =>
        have hzr := closed_rel m 8 z (ok.zero _ z hz)
        exact Sim.retVal h (hy z hz rfl) (.tuple (.cons hzr (.cons (.atom rfl) .nil)))
  unfold opAssert
  cases hu : P.underlying asserted with
  | none => exact Sim.fail
  | some d =>
    have main : (∀ ms, d ≠ .interface ms) → Sim P base m s w (assertTo P asserted okk a) (Instr.typeAssert a' st asserted okk) VR := by
      intro hd
      cases a <;> try exact Sim.fail
      case iface t y =>
        cases ha with
        | atom k => simp [atomic] at k
        | iface hy =>
          rename_i y'
          unfold assertTo
          (try simp only [])
          cases hb : Nat.beq t asserted with
          | true =>
            have := Nat.eq_of_beq_eq_true hb
            subst this
            cases okk with
            | true => exact Sim.retVal h (v' := .tuple #[y', .bool true]) (by cases d <;> first | exact absurd rfl (hd _) | simp [Instr.typeAssert, run_under hu]) (.tuple (.cons hy (.cons (.atom rfl) .nil)))
            | false => exact Sim.retVal h (v' := y') (by cases d <;> first | exact absurd rfl (hd _) | simp [Instr.typeAssert, run_under hu]) hy
          | false =>
            have hne : t ≠ asserted := fun e => by subst e; simp at hb
            refine hnot (st' := none) (dy := none) hu _ fun z hz hok => ?_
            subst hok
            cases d <;> first | exact absurd rfl (hd _) | simp [Instr.typeAssert, run_under hu, hne, run_zero hz]
      case nilIface =>
        cases ha
        refine hnot (st' := none) (dy := none) hu _ fun z hz hok => ?_
        subst hok
        cases d <;> first | exact absurd rfl (hd _) | simp [Instr.typeAssert, run_under hu, run_zero hz]
    cases d <;> first | exact Sim.fail | exact main (by simp)
end
end Go.Shade
