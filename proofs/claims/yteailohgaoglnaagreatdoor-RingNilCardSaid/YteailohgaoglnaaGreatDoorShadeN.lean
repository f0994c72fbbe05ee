/- The evaluator's operations beside the model's. Part 4: slices, conversions, append, copy, maps, strings ranged over. -/
import Derived.Test.YteailohgaoglnaaGreatDoorShadeM
import Derived.Laws.BytesString
namespace Go.Shade
open Go.RowKit
set_option linter.unusedVariables false

section
variable {P : Program} {base : Nat} {m : Mp} {s : S} {w : World}

def BRel (o : Option Nat) (o' : Option Value) : Prop := (o = none ∧ o' = none) ∨ ∃ k n, o = some n ∧ o' = some (.int k (.ofNat n))

theorem VRel.slice_inv {a : Option Addr} {n c : Nat} {v' : Value} (h : VRel m (.slice a n c) v') : ∃ a' c', v' = .slice a' n c' := by
  cases h with
  | atom k => simp [atomic] at k
  | _ => exact ⟨_, _, rfl⟩

theorem run_sliceArr {n e : Nat} {x x' : Value} {lo hi mx : Option Nat} {lo' hi' mx' : Option Value} {v : Value} (h : sliceArr P n e x lo hi mx = some v) (hx : VRel m x x')
    (hlo : BRel lo lo') (hhi : BRel hi hi') (hmx : BRel mx mx') : ∃ a k v', x' = .pointer (some a) ∧ sizeOf' P e = some k ∧ VRel m v v' ∧
    ∀ {isS : Bool}, (do let (l, h, mm) ← Instr.sliceBounds isS n n lo' hi' mx'; let size ← sizeOf e; pure (.slice (some (if mm = l then a else a.add (l * size))) (h - l) (mm - l)) : Sem Value).run P w = .ok v' w := by
  unfold sliceArr at h
  split at h
  · rename_i a k hk
    obtain ⟨b, i, sp⟩ := a
    cases hx with
    | atom q => simp [atomic] at q
    | ptr hm =>
      obtain ⟨h1, h2, h3, h4, _, h5⟩ := rel_sliceV h (.sliceE (i := i) (n := n) (c := n) hm)
      refine ⟨_, k, _, rfl, hk, h5, ?_⟩
      intro isS
      rw [Sem.run_bind, run_bounds isS hlo hhi hmx h1 h2 h3 h4]
      simp only [Result.andThen_ok, Sem.run_bind, run_sizeOf hk, Sem.run_pure]
      split <;> simp
  · cases h

theorem sim_slice (h : HRel m s.H w base) (t : TypeId) {x x' : Value} {lo hi mx lo' hi' mx' : Option Value} (hx : VRel m x x')
    (hlo : ∀ r, natO lo = some r → BRel r lo') (hhi : ∀ r, natO hi = some r → BRel r hi') (hmx : ∀ r, natO mx = some r → BRel r mx') :
    Sim P base m s w (opSlice P t x lo hi mx) (Instr.sliceAt t x' lo' hi' mx') VR := by
  unfold opSlice
  cases h1 : natO lo with
  | none => exact Sim.fail
  | some l =>
    cases h2 : natO hi with
    | none => exact Sim.fail
    | some hh =>
      cases h3 : natO mx with
      | none => exact Sim.fail
      | some mm =>
        have hlo := hlo l h1
        have hhi := hhi hh h2
        have hmx := hmx mm h3
        refine Sim.optVal h fun v hv => ?_
        unfold sliceAny at hv
        split at hv
        · rename_i str hu
          cases hx.string_inv
          split at hv
          · unfold sliceStr at hv
            cases hb : Nat.ble (hh.getD str.size) str.size && Nat.ble (l.getD 0) (hh.getD str.size) with
            | false => simp [hb] at hv
            | true =>
              simp only [hb, Option.some.injEq] at hv
              subst hv
              simp only [Bool.and_eq_true] at hb
              have b1 := Nat.le_of_ble_eq_true hb.1
              have b2 := Nat.le_of_ble_eq_true hb.2
              have hmx' : mx' = none := by rcases hmx with ⟨_, e⟩ | ⟨_, _, e, _⟩ <;> first | exact e | cases e
              subst hmx'
              have := run_bounds (P := P) (w := w) false (len := str.size) (cap := str.size) (mx := none) (mx' := none) hlo hhi (.inl ⟨rfl, rfl⟩) (by simp) (by simpa using b1) b2 (by simp)
              refine ⟨_, ?_, .atom rfl⟩
              simp only [Instr.sliceAt, Sem.run_bind, run_under hu, Result.andThen_ok, Instr.slice, Option.isSome_none, Bool.false_eq_true, if_false, this, Sem.run_pure]
          · cases hv
        · rename_i e a n c hu
          obtain ⟨a', c', rfl⟩ := hx.slice_inv
          split at hv
          · rename_i k hk
            obtain ⟨g1, g2, g3, g4, _, g5⟩ := rel_sliceV hv hx
            refine ⟨_, ?_, g5⟩
            simp only [Instr.sliceAt, Sem.run_bind, run_under hu, Result.andThen_ok, Instr.slice, run_bounds true hlo hhi hmx g1 g2 g3 g4, run_sizeOf hk, Sem.run_pure]
          · cases hv
        · rename_i n e hu
          obtain ⟨a, k, v', rfl, hk, hr, hrun⟩ := run_sliceArr (w := w) hv hx hlo hhi hmx
          refine ⟨v', ?_, hr⟩
          have := hrun (isS := false)
          simp only [Instr.sliceAt, Sem.run_bind, run_under hu, Result.andThen_ok, Instr.sureAddr, Sem.run_pure] at this ⊢
          exact this
        · rename_i arr hu
          split at hv
          · rename_i n e hua
            obtain ⟨a, k, v', rfl, hk, hr, hrun⟩ := run_sliceArr (w := w) hv hx hlo hhi hmx
            refine ⟨v', ?_, hr⟩
            have := hrun (isS := false)
            simp only [Instr.sliceAt, Sem.run_bind, run_under hu, run_under hua, Result.andThen_ok, Instr.slice, asAddr, Sem.run_pure] at this ⊢
            exact this
          · cases hv
        · cases hv

theorem Below.drew' {base : Nat} {w w' : World} (h : Below base w.drew w') : Below base w w' := ⟨h.os, h.tape, h.output, h.size, h.block⟩

/-- A block with the same cells, marked otherwise. -/
theorem HRel.marked {H : Tr AObj} (h : HRel m H w base) {g : Nat} {c : Array Value} {e : TypeId} {fz fz' : Nat × Nat} (hg : w.heap[g]? = some (.cells c e fz)) (hN : NoFz c.size fz → NoFz c.size fz') :
    HRel m H (putObj w g (.cells c e fz')) base := by
  have hlt := (Array.getElem?_eq_some_iff.1 hg).1
  refine ⟨by simpa [putObj] using h.bs, ?_, ?_, ?_, h.sep, h.ends, h.olds, h.ro⟩
  · intro b cs rw old esz hb
    obtain ⟨l, c1, e1, fz1, h1, h2, h3, h4, h5, h6, h7⟩ := h.cells _ _ _ _ _ hb
    by_cases hl : l.cb = g
    · rw [hl, hg] at h3
      simp only [Option.some.injEq, Obj.cells.injEq] at h3
      obtain ⟨rfl, rfl, rfl⟩ := h3
      exact ⟨l, c, e, fz', h1, h2, by rw [hl]; exact putObj_same _ _ _ hlt, h4, h5, h6, fun hr => ⟨(h7 hr).1, hN (h7 hr).2⟩⟩
    · exact ⟨l, c1, e1, fz1, h1, h2, by rw [putObj_other _ _ _ _ hl]; exact h3, h4, h5, h6, h7⟩
  · intro b s p hb
    obtain ⟨l, h1, h2, h3, h4⟩ := h.iter _ _ _ hb
    have hl : l.cb ≠ g := fun e => by rw [e, hg] at h4; cases h4
    exact ⟨l, h1, h2, h3, by rw [putObj_other _ _ _ _ hl]; exact h4⟩
  · intro b es hb
    obtain ⟨l, ces, clock, h1, h2, h3, h4⟩ := h.map _ _ hb
    have hl : l.cb ≠ g := fun e => by rw [e, hg] at h3; cases h3
    exact ⟨l, ces, clock, h1, h2, by rw [putObj_other _ _ _ _ hl]; exact h3, h4⟩

/-- Freezing behind the cells turns nothing that counts. -/
theorem freeze_put {g sz : Nat} {c : Array Value} {e : TypeId} {fz : Nat × Nat} (hg : w.heap[g]? = some (.cells c e fz)) (hs : c.size = sz) :
    ∃ fz', w.freeze ⟨g, sz, none⟩ 1 = putObj w g (.cells c e fz') ∧ (NoFz c.size fz → NoFz c.size fz') := by
  obtain ⟨hlt, hge⟩ := Array.getElem?_eq_some_iff.1 hg
  obtain ⟨lo, hi⟩ := fz
  refine ⟨if lo == hi then (sz, sz + 1) else (min lo sz, max hi (sz + 1)), ?_, ?_⟩
  · unfold World.freeze putObj
    rw [if_neg (by omega)]
    congr 1
    apply Array.ext
    · simp
    · intro j hj hj'
      rw [Array.getElem_modify, Array.getElem_setIfInBounds]
      split
      · rename_i e1; subst e1; rw [hge]
      · rfl
  · rintro (h | h)
    · cases h; exact .inr (by simp; omega)
    · simp only at h
      right
      split <;> simp <;> omega

theorem sim_ownRow (h : HRel m s.H w base) {b : Nat} {l : Lc} (hl : m b = some l) (i : Nat) : Sim P base m s w (ownRow b) (markStringish ⟨l.cb, i, none⟩) (fun _ _ _ => True) := by
  intro r s' e hf
  obtain ⟨n, H, lim, log⟩ := s
  obtain ⟨x, hx, hh⟩ := touch_some e
  obtain ⟨cs, old, esz, rfl, hs⟩ : ∃ cs old esz, x = .cells cs true old esz ∧ s' = ⟨n, H, lim, note b lim log false⟩ := by
    rcases hh with ⟨hh, hs⟩ | ⟨y, hh, hs⟩
    · cases x with
      | cells cs rw old esz => cases rw <;> simp at hh; exact ⟨_, _, _, rfl, hs⟩
      | _ => simp at hh
    · cases x with
      | cells cs rw old esz => cases rw <;> simp at hh
      | _ => simp at hh
  subst hs
  obtain ⟨l', c, e1, fz, h1, h2, h3, h4, h5, h6, h7⟩ := h.cells _ _ _ _ _ hx
  rw [hl] at h1; cases h1
  obtain ⟨fz', g1, g2⟩ := freeze_put h3 rfl
  refine ⟨m, (), _, ?_, ⟨Ext.refl _ _ _, h.marked h3 g2, putObj_below _ _ _ _ (h7 rfl).1⟩, trivial⟩
  rw [← g1]
  simp [markStringish, World.shape?, h3]

/-- Cells of a slice or of a string. -/
theorem rd_rdSlice (h : HRel m s.H w base) (k : Nat) {x x' : Value} (n : Nat) (hx : VRel m x x') {r : List Value} {s' : S} (e : rdSlice k x n s = some (r, s')) :
    ∃ log' arr, s' = ⟨s.n, s.H, s.lim, log'⟩ ∧ (∀ w1 : World, w1.heap = w.heap → (Builtin.firstCells k n x').run P w1 = .ok arr w1) ∧ VRelL m r arr.toList ∧ ((∃ a b c, x = .slice a b c) → r.length = n * k) ∧ (∀ str, x = .string str → r.length = n ∧ n ≤ str.size) := by
  have hempty : ∀ y : Value, (∃ a c q, y = .slice a c q) → ∃ arr, (∀ w1 : World, (Builtin.firstCells k 0 y).run P w1 = .ok arr w1) ∧ VRelL m [] arr.toList := by
    rintro y ⟨a, c, q, rfl⟩
    refine ⟨#[], fun w1 => ?_, .nil⟩
    cases a <;> simp [Builtin.firstCells, loadCells, loadCellsFrom]
  unfold rdSlice at e
  split at e
  · rename_i b i a1 a2
    cases hx with
    | atom q => simp [atomic] at q
    | sliceE hm =>
      obtain ⟨log', arr, h1, h2, h3, h4, _⟩ := rd_rdRow (P := P) h hm e
      exact ⟨log', arr, h1, h2, h3, fun _ => h4, by simp⟩
    | sliceI hm _ _ _ _ =>
      obtain ⟨log', arr, h1, h2, h3, h4, _⟩ := rd_rdRow (P := P) h hm e
      exact ⟨log', arr, h1, h2, h3, fun _ => h4, by simp⟩
  · rename_i a1 a2 a3 h1
    obtain ⟨a', c', rfl⟩ := hx.slice_inv
    cases hb : Nat.beq n 0 with
    | false => rw [hb] at e; exact (M.fail_some e).elim
    | true =>
      rw [hb] at e
      obtain ⟨rfl, rfl⟩ := M.ret_some e
      have := Nat.eq_of_beq_eq_true hb
      subst this
      obtain ⟨arr, g1, g2⟩ := hempty (.slice a' a2 c') ⟨_, _, _, rfl⟩
      exact ⟨s'.log, arr, rfl, fun w1 _ => g1 w1, g2, by simp, by simp⟩
  · rename_i str
    cases hx.string_inv
    cases ht : takeO n str.data.toList with
    | none => rw [ht] at e; exact (M.fail_some e).elim
    | some l =>
      rw [ht] at e
      obtain ⟨rfl, rfl⟩ := M.ret_some e
      obtain ⟨rfl, hle⟩ := takeO_eq _ _ _ ht
      have hle : n ≤ str.size := by simpa using hle
      refine ⟨s'.log, (str.extract 0 n).data.map fun b => .int .u8 b.toNat, rfl, fun w1 _ => rfl, ?_, by simp, ?_⟩
      · have he : (str.extract 0 n).data.toList = str.data.toList.take n := by
          simp [ByteArray.extract, ByteArray.copySlice]
        rw [Array.toList_map, he]
        exact VRelL.map _ _ (fun b => .atom rfl) _
      · intro str' e1
        cases e1
        refine ⟨?_, hle⟩
        simp [cellsOfBytes]; omega
  · exact (M.fail_some e).elim

/-- A row that an append or a conversion made. -/
theorem rel_grown (h : HRel m s.H w base) {cs : List Value} {len k : Nat} {old : List Nat} {v : Value} {s' : S} (e : grown cs len k old s = some (v, s')) (hf : Fresh m s.n s'.n)
    {w1 : World} (hw1 : w1.heap = w.heap) (hb1 : Below base w w1) {c : Array Value} {cap : Nat} (et : TypeId) (hlen : cs.length ≤ c.size) (hrow : RowRel m cs c 0) (hcap : len ≤ cap) (hroom : cap * k ≤ c.size)
    (hro : ∀ a ∈ old, (∃ k, m a = some k) ∧ ∀ x, s.H.get a = some x → x = .dead ∨ ∃ cs' old' esz', x = .cells cs' false old' esz') :
    ∃ m', Step base m m' s.n s'.n s'.H w { w1 with heap := w1.heap.push (.cells c et) } ∧ VRel m' v (.slice (some ⟨w.heap.size, 0, none⟩) len cap) := by
  obtain ⟨n, H, lim, log⟩ := s
  unfold grown at e
  cases hk : Nat.blt k 65536 with
  | false => rw [hk] at e; exact (M.fail_some e).elim
  | true =>
    rw [hk] at e
    rw [Nat.blt_eq] at hk
    obtain ⟨b, s1, h1, h2⟩ := M.bnd_some e
    obtain ⟨rfl, rfl⟩ := M.ret_some h2
    obtain ⟨_, rfl, rfl⟩ := newRow_some h1
    have hn : m b = none := hf b (Nat.le_refl _) (Nat.lt_succ_self _)
    have hr1 : HRel m H w1 base := h.heap hw1
    have := hr1.newRow1 hn (e := et) (esz := k) (old := old) hlen hrow hro
    rw [hw1] at this ⊢
    refine ⟨_, ⟨Ext.upd _ _ _, by simpa [hw1] using this, hb1.trans (by have := Below.push (base := base) (w := w1) (by rw [hw1]; exact h.bs) (.cells c et); simpa [hw1] using this)⟩, ?_⟩
    rw [mkSlice_eq]
    have := VRel.sliceI (m := upd m b ⟨w.heap.size, 0, c.size, k⟩) (b := b) (i := 0) (n := len) (c := len) (c' := cap) (k := k) (upd_eq _ _ _) (Nat.le_refl _) hcap hk (by simpa using hroom)
    simpa using this

theorem run_appendCap (need old : Nat) (e : TypeId) : ∃ cap w1, (choose (.appendCap need old e)).run P w = .ok cap w1 ∧ need ≤ cap ∧ w1.heap = w.heap ∧ Below base w w1 := by
  refine ⟨_, { w with drawn := w.drawn + 1 }, by rw [run_choose]; rfl, ?_, rfl, ⟨rfl, rfl, rfl, Nat.le_refl _, fun _ _ => rfl⟩⟩
  simp [Question.cut]

theorem rowRel_append {cs : List Value} {c : Array Value} (r : Array Value) (h : VRelL m cs c.toList) : RowRel m cs (c ++ r) 0 := by
  intro i v hi
  obtain ⟨v', a1, a2⟩ := h.get hi
  refine ⟨v', ?_, a2⟩
  have hlt := (List.getElem?_eq_some_iff.1 a1).1
  rw [Nat.zero_add, Array.getElem?_append_left (by simpa using hlt)]
  simpa using a1

theorem sim_strBytes (h : HRel m s.H w base) (et : TypeId) (str : ByteArray) : Sim P base m s w (grown (cellsOfBytes str.data.toList) str.size 1 []) (Conv.stringToBytes et str) VRel := by
  intro v s' e hf
  obtain ⟨cap, w1, g1, g2, g3, g4⟩ := run_appendCap (P := P) (base := base) (w := w) str.size 0 et
  have hrel : VRelL m (cellsOfBytes str.data.toList) (str.data.map fun b => Value.int .u8 b.toNat).toList := by
    rw [Array.toList_map]; exact VRelL.map _ _ (fun b => .atom rfl) _
  obtain ⟨m', st, hv⟩ := rel_grown h e hf g3 g4 (c := (str.data.map fun b => Value.int .u8 b.toNat) ++ Array.replicate (cap - str.size) (.int .u8 0)) (cap := cap) et
    (by simp [cellsOfBytes]) (rowRel_append _ hrel) g2 (by simp; have : str.data.size = str.size := rfl; omega) (by simp)
  have hg : ({ w1 with heap := w1.heap.push (.cells ((str.data.map fun b => Value.int .u8 b.toNat) ++ Array.replicate (cap - str.size) (.int .u8 0)) et) } : World).heap[w.heap.size]? = some (.cells ((str.data.map fun b => Value.int .u8 b.toNat) ++ Array.replicate (cap - str.size) (.int .u8 0)) et (0, 0)) := by
    simp [g3]
  obtain ⟨fz', k1, k2⟩ := freeze_put hg rfl
  refine ⟨m', _, putObj _ w.heap.size (.cells _ et fz'), ?_, ⟨st.ext, st.rel.marked hg k2, st.below.trans (putObj_below _ _ _ _ h.bs)⟩, hv⟩
  rw [← k1]
  simp only [Conv.stringToBytes, Sem.run_bind, g1, Result.andThen_ok, Go.newRow, run_newObj, Sem.run_pure, g3, markStringish, run_shape, World.shape?]
  rw [g3] at hg
  simp only [hg]
  try simp [run_freeze]

theorem sim_strRunes (h : HRel m s.H w base) (et : TypeId) (str : ByteArray) : Sim P base m s w (grown (Conv.runesFrom str str.size 0 #[]).toList (Conv.runesFrom str str.size 0 #[]).toList.length 1 []) (Conv.stringToRunes et str) VRel := by
  intro v s' e hf
  generalize hq : Conv.runesFrom str str.size 0 #[] = q at e
  obtain ⟨cap, w1, g1, g2, g3, g4⟩ := run_appendCap (P := P) (base := base) (w := w) q.size 0 et
  have hat : ∀ v ∈ q.toList, atomic v = true := by
    have : ∀ (bound i : Nat) (acc : Array Value), (∀ v ∈ acc.toList, atomic v = true) → ∀ v ∈ (Conv.runesFrom str bound i acc).toList, atomic v = true := by
      intro bound
      induction bound with
      | zero => intro i acc ha; exact ha
      | succ n ih =>
        intro i acc ha
        unfold Conv.runesFrom
        split
        · refine ih _ _ ?_
          intro v hv
          rw [Array.toList_push] at hv
          rcases List.mem_append.1 hv with h1 | h1
          · exact ha v h1
          · simp at h1; subst h1; rfl
        · exact ha
    rw [← hq]; exact this _ _ _ (by simp)
  obtain ⟨m', st, hv⟩ := rel_grown h e hf g3 g4 (c := q ++ Array.replicate (cap - q.size) (.int .i32 0)) (cap := cap) et
    (by simp) (rowRel_append _ (VRelL.atoms hat)) (by simpa using g2) (by simp; omega) (by simp)
  refine ⟨m', _, _, ?_, st, by simpa using hv⟩
  simp only [Conv.stringToRunes, hq, Sem.run_bind, g1, Result.andThen_ok, Go.newRow, run_newObj, Sem.run_pure, g3]
  try simp

theorem bytesOf_ints : ∀ {l l' : List Value} {bs : List UInt8}, bytesOfCells l = some bs → VRelL m l l' →
    ∃ ns : List Int, l' = ns.map (Value.int .u8) ∧ ∀ acc : ByteArray, ns.foldl (fun r n => r.push (UInt8.ofNat n.toNat)) acc = ⟨acc.data ++ bs.toArray⟩
  | [], l', bs, h, hr => by
    cases hr
    simp only [bytesOfCells, Option.some.injEq] at h
    subst h
    exact ⟨[], rfl, fun acc => by simp⟩
  | v :: l, l', bs, h, hr => by
    cases hr with
    | cons hv hl =>
      unfold bytesOfCells at h
      split at h
      · rename_i e1; cases e1
      · rename_i n l2 e1
        cases e1
        cases hv.int_inv
        cases hb : bytesOfCells l with
        | none => simp [hb] at h
        | some bs' =>
          simp only [hb, Option.some.injEq] at h
          subst h
          obtain ⟨ns, rfl, hn⟩ := bytesOf_ints hb hl
          refine ⟨n :: ns, rfl, fun acc => ?_⟩
          rw [List.foldl_cons, hn]
          simp [ByteArray.push]
      · cases h
theorem runesOf_ints : ∀ {l l' : List Value} {bs : ByteArray}, runesOfCells l = some bs → VRelL m l l' →
    ∃ ns : List Int, l' = ns.map (Value.int .i32) ∧ ∀ acc : ByteArray, ns.foldl (fun r n => r ++ Utf8.encode n) acc = acc ++ bs
  | [], l', bs, h, hr => by
    cases hr
    simp only [runesOfCells, Option.some.injEq] at h
    subst h
    exact ⟨[], rfl, fun acc => by simp⟩
  | v :: l, l', bs, h, hr => by
    cases hr with
    | cons hv hl =>
      unfold runesOfCells at h
      split at h
      · rename_i e1; cases e1
      · rename_i n l2 e1
        cases e1
        cases hv.int_inv
        cases hb : runesOfCells l with
        | none => simp [hb] at h
        | some bs' =>
          simp only [hb, Option.some.injEq] at h
          subst h
          obtain ⟨ns, rfl, hn⟩ := runesOf_ints hb hl
          refine ⟨n :: ns, rfl, fun acc => ?_⟩
          rw [List.foldl_cons, hn, ByteArray.append_assoc]
      · cases h
theorem run_forIn_runes (f : Value → ByteArray → Sem (ForInStep ByteArray)) (hf : ∀ (n : Int) (r : ByteArray), (f (.int .i32 n) r).run P w = .ok (.yield (r ++ Utf8.encode n)) w) :
    ∀ (ns : List Int) (s : ByteArray), (forIn (ns.map (Value.int .i32)) s f).run P w = .ok (ns.foldl (fun r n => r ++ Utf8.encode n) s) w := by
  intro ns
  induction ns with
  | nil => intro s; simp [Sem.run_pure]
  | cons n ns ih =>
    intro s
    simp only [List.map_cons, List.forIn_cons, Sem.run_bind, hf, Result.andThen, List.foldl_cons]
    exact ih _

theorem run_cellsString {e : TypeId} {l : List Value} {arr : Array Value} {v : Value} (h : convCells P e l = some v) (hr : VRelL m l arr.toList) {a' : Option Addr} {n c : Nat} (hl : (Builtin.firstCells 1 n (.slice a' n c)).run P w = .ok arr w) :
    (P.underlying e = some (.int .u8) ∧ (Conv.bytesToString (.slice a' n c)).run P w = .ok v w) ∨ (P.underlying e = some (.int .i32) ∧ (Conv.runesToString (.slice a' n c)).run P w = .ok v w) := by
  unfold convCells at h
  split at h
  · rename_i hu
    left
    refine ⟨hu, ?_⟩
    cases hb : bytesOfCells l with
    | none => simp [hb] at h
    | some bs =>
      simp only [hb, Option.some.injEq] at h
      subst h
      obtain ⟨ns, e1, e2⟩ := bytesOf_ints hb hr
      have harr : arr = (ns.map (Value.int .u8)).toArray := by rw [← e1]
      subst harr
      cases a' with
      | none =>
        simp only [Builtin.firstCells, Sem.run_pure, Result.ok.injEq, and_true] at hl
        have hns : ns = [] := by simpa using congrArg Array.toList hl.symm
        subst hns
        have := e2 ByteArray.empty
        simp only [List.foldl_nil] at this
        simp only [Conv.bytesToString, Sem.run_pure]
        congr 2
        try (rw [this]; try simp)
      | some a =>
        simp only [Builtin.firstCells, Nat.mul_one] at hl
        rw [run_bytesToString w a n c ns hl, e2]
        try simp
  · rename_i hu
    right
    refine ⟨hu, ?_⟩
    cases hb : runesOfCells l with
    | none => simp [hb] at h
    | some bs =>
      simp only [hb, Option.some.injEq] at h
      subst h
      obtain ⟨ns, e1, e2⟩ := runesOf_ints hb hr
      have harr : arr = (ns.map (Value.int .i32)).toArray := by rw [← e1]
      subst harr
      cases a' with
      | none =>
        simp only [Builtin.firstCells, Sem.run_pure, Result.ok.injEq, and_true] at hl
        have hns : ns = [] := by simpa using congrArg Array.toList hl.symm
        subst hns
        have := e2 ByteArray.empty
        simp only [List.foldl_nil] at this
        simp only [Conv.runesToString, Sem.run_pure]
        congr 2
        try (rw [this]; try simp)
      | some a =>
        simp only [Builtin.firstCells, Nat.mul_one] at hl
        unfold Conv.runesToString
        simp only [Sem.run_bind, hl, Result.andThen, List.forIn_toArray]
        rw [run_forIn_runes _ (by intro n r; simp [Sem.run_pure]), e2]
        try simp [Sem.run_pure]
  · cases h

theorem sim_conv (h : HRel m s.H w base) (src dst : TypeId) {x x' : Value} (hx : VRel m x x') : Sim P base m s w (convV P src dst x) (convert src dst x') VRel := by
  unfold convV
  split
  · rename_i k n
    cases hx.int_inv
    split
    · rename_i k2 hs
      refine Sim.opt h fun v hv => ?_
      unfold convInt at hv
      split at hv
      · rename_i k3 hd
        simp only [mkInt_eq, Option.some.injEq] at hv
        subst hv
        exact ⟨_, by simp [convert, run_under hs, run_under hd, Conv.intToInt], .atom rfl⟩
      · rename_i hd
        simp only [Option.some.injEq] at hv
        subst hv
        exact ⟨_, by simp [convert, run_under hs, run_under hd, Conv.intToString], .atom rfl⟩
      · cases hv
    · exact Sim.fail
  · rename_i str
    cases hx.string_inv
    split
    · rename_i hs
      unfold convStr
      split
      · rename_i hd
        exact Sim.run (y := pure (.string str)) (Sim.ret h (.atom rfl)) (by simp [convert, run_under hs, run_under hd])
      · rename_i e hd
        split
        · rename_i he
          exact Sim.run (sim_strBytes h e str) (by simp [convert, run_under hs, run_under hd, run_under he])
        · rename_i he
          exact Sim.run (sim_strRunes h e str) (by simp [convert, run_under hs, run_under hd, run_under he])
        · exact Sim.fail
      · exact Sim.fail
    · exact Sim.fail
  · rename_i a n c
    obtain ⟨a', c', rfl⟩ := hx.slice_inv
    unfold convSlice
    split
    · rename_i e hs hd
      intro v s' ee hf
      obtain ⟨l, s1, h1, h2⟩ := M.bnd_some ee
      obtain ⟨hv, rfl⟩ := M.opt_some h2
      obtain ⟨log', arr, rfl, g1, g2, _⟩ := rd_rdSlice (P := P) h 1 n hx h1
      have hat : ∃ str, v = .string str := by
        unfold convCells at hv
        split at hv <;> (try cases hv) <;> split at hv <;> (try cases hv) <;> exact ⟨_, rfl⟩
      obtain ⟨str, rfl⟩ := hat
      refine ⟨m, .string str, w, ?_, ⟨Ext.refl _ _ _, h, Below.refl _ _⟩, .atom rfl⟩
      rcases run_cellsString hv g2 (g1 w rfl) with ⟨he, hr⟩ | ⟨he, hr⟩
      · simp only [convert, Sem.run_bind, run_under hs, run_under hd, run_under he, Result.andThen_ok]; exact hr
      · simp only [convert, Sem.run_bind, run_under hs, run_under hd, run_under he, Result.andThen_ok]; exact hr
    · rename_i e1 e hs hd
      unfold convRow
      split
      · rename_i b i hb he
        have hb := Nat.eq_of_beq_eq_true hb
        subst hb
        have hee : e1 = e := by rw [hs] at hd; cases hd; rfl
        subst hee
        have key : ∀ l, m b = some l → ∀ n' c', VRel m (.slice (some ⟨b, i, none⟩) n c) (.slice (some ⟨l.cb, l.off + i, none⟩) n' c') →
            Sim P base m s w (M.bnd (ownRow b) fun _ => M.ret (.slice (some ⟨b, i, none⟩) n c)) (convert src src (.slice (some ⟨l.cb, l.off + i, none⟩) n' c')) VRel := by
          intro l hm n' c' hr
          have hmm : ∀ {m' : Mp} {k k' : Nat}, Ext m m' k k' → Fresh m k k' → VRel m' (.slice (some ⟨b, i, none⟩) n c) (.slice (some ⟨l.cb, l.off + i, none⟩) n' c') := fun e f => hr.mono (e.le f)
          intro v s' ee hf
          obtain ⟨u, s1, h1, h2⟩ := M.bnd_some ee
          obtain ⟨rfl, rfl⟩ := M.ret_some h2
          obtain ⟨m', _, w', r1, st, _⟩ := sim_ownRow (P := P) h hm (l.off + i) u s' h1 hf
          refine ⟨m', _, w', ?_, st, hmm st.ext hf⟩
          simp only [convert, Sem.run_bind, run_under hs, Result.andThen_ok, beq_self_eq_true, run_under he, r1, Sem.run_pure]
        cases hx with
        | atom q => simp [atomic] at q
        | sliceE hm => exact key _ hm _ _ (.sliceE hm)
        | sliceI hm a1 a2 a3 a4 => exact key _ hm _ _ (.sliceI hm a1 a2 a3 a4)
      · exact Sim.fail
    · exact Sim.fail
  · exact Sim.fail
end
end Go.Shade
