/- The evaluator's operations beside the model's. Part 6: append. -/
import Derived.Test.YteailohgaoglnaaGreatDoorShadeO
namespace Go.Shade
open Go.RowKit
set_option linter.unusedVariables false

section
variable {P : Program} {base : Nat} {m : Mp} {s : S} {w : World}

theorem HRel.byOld {H : Tr AObj} (h : HRel m H w base) {b : Nat} {cs : List Value} {olds : List Nat} {esz : Nat} (hb : H.get b = some (.cells cs true olds esz)) {l : Lc} (hl : m b = some l) {a : Nat} {k : Lc}
    (ha : liveIn H a) (hab : a ≠ b) (hk : m a = some k) (e : k.cb = l.cb) : a ∈ olds := by
  obtain ⟨l', c, e', fz, h1, _, _, _, _, _, h7⟩ := h.cells _ _ _ _ _ hb
  rw [hl] at h1; cases h1
  have hbase := (h7 rfl).1
  rcases h.sep a b k l ha ⟨_, hb, by simp⟩ hab hk hl e (by rw [e]; exact hbase) with ⟨cs', rw', old', esz', hx, hin⟩ | hba
  · rw [hb] at hx; cases hx; exact hin
  · rcases h.ro b a hba _ hb with e2 | ⟨_, _, _, e2⟩ <;> cases e2

theorem HRel.oldsRo {H : Tr AObj} (h : HRel m H w base) {b : Nat} {cs : List Value} {olds : List Nat} {esz : Nat} (hb : H.get b = some (.cells cs true olds esz)) {l : Lc} (hl : m b = some l) :
    ∀ a ∈ b :: olds, (∃ k, m a = some k) ∧ ∀ x, (H.set b (.cells cs false olds esz)).get a = some x → x = .dead ∨ ∃ cs' old' esz', x = .cells cs' false old' esz' := by
  intro a ha
  by_cases hab : a = b
  · subst hab
    refine ⟨⟨l, hl⟩, fun x hx => ?_⟩
    rw [Tr.get_set_eq] at hx
    cases hx
    exact .inr ⟨_, _, _, rfl⟩
  · rcases List.mem_cons.1 ha with e | ha
    · exact absurd e hab
    · have ho : oldIn H a b := ⟨_, _, _, _, hb, ha⟩
      refine ⟨h.olds _ _ ho, fun x hx => ?_⟩
      rw [Tr.get_set_ne _ _ hab] at hx
      exact h.ro _ _ ho x hx

/-- A row grown where it lies. -/
theorem core_grow {H : Tr AObj} (h : HRel m H w base) {b : Nat} {cs : List Value} {olds : List Nat} {esz : Nat} (hb : H.get b = some (.cells cs true olds esz)) {l : Lc} (hl : m b = some l) {i k q n : Nat}
    (hlen : cs.length = i + q) {old new new' : List Value} (hn : m n = none) (hold : old.length = q) (hin : ∀ j v, old[j]? = some v → cs[i + j]? = some v) (hnew : VRelL m new new') (h1 : new.all oneCell = true)
    (hroom : l.off + i + q + new.length ≤ l.sz) :
    ∃ w', (storeCells ⟨l.cb, l.off + i + q, none⟩ new').run P w = .ok () w' ∧ HRel (upd m n ⟨l.cb, l.off + i, l.sz, k⟩) ((H.set b (.cells cs false olds esz)).set n (.cells (old ++ new) true (b :: olds) k)) w' base ∧ Below base w w' := by
  obtain ⟨l', c, e, fz, g1, g2, g3, g4, g5, g6, g7⟩ := h.cells _ _ _ _ _ hb
  rw [hl] at g1; cases g1
  obtain ⟨hbase, hz⟩ := g7 rfl
  have hnl := hnew.length
  have hlt := (Array.getElem?_eq_some_iff.1 g3).1
  obtain ⟨c', r, hs, hj⟩ := run_storeCells P l.cb (l.off + i + q) e fz new' 0 c w g3 (by omega) hz (hnew.allOne h1)
  have hbn : b ≠ n := fun e => by rw [e, hn] at hl; cases hl
  refine ⟨_, r, ?_, putObj_below _ _ _ _ hbase⟩
  have hr := h.retire1 hb
  have hlive : ∀ {a}, liveIn (H.set b (.cells cs false olds esz)) a → a = b ∨ (a ≠ b ∧ liveIn H a) := by
    rintro a ⟨x, hx, hd⟩
    by_cases hab : a = b
    · exact .inl hab
    · rw [Tr.get_set_ne _ _ hab] at hx; exact .inr ⟨hab, x, hx, hd⟩
  refine hr.new hn (l := ⟨l.cb, l.off + i, l.sz, k⟩) (by simpa [putObj] using h.bs) ?_ (by simp) ?_ (by simp) (by simp) ?_ ?_ ?_
  · intro a ha k2 hk2
    by_cases hcb : k2.cb = l.cb
    · right
      refine ⟨hcb, c, c', e, fz, by rw [hcb]; exact g3, by rw [hcb]; exact putObj_same _ _ _ hlt, hs, ?_⟩
      intro ds rw' old' esz' hx
      have key : rw' = false ∧ k2.off + ds.length ≤ l.off + cs.length := by
        by_cases hab : a = b
        · subst hab
          rw [Tr.get_set_eq] at hx; cases hx
          rw [hl] at hk2; cases hk2
          exact ⟨rfl, Nat.le_refl _⟩
        · rw [Tr.get_set_ne _ _ hab] at hx
          have hao := h.byOld hb hl ⟨_, hx, by simp⟩ hab hk2 hcb
          refine ⟨?_, h.ends _ _ _ _ _ _ _ _ _ _ _ _ hx hb hao hk2 hl hcb⟩
          rcases h.ro a b ⟨_, _, _, _, hb, hao⟩ _ hx with e2 | ⟨_, _, _, e2⟩
          · cases e2
          · cases e2; rfl
      refine ⟨key.1, fun j hjl => ?_⟩
      rw [hj, if_neg (by omega)]
    · left
      exact putObj_other _ _ _ _ hcb
  · intro cs1 rw1 old1 esz1 e1
    cases e1
    refine ⟨rfl, c', e, fz, putObj_same _ _ _ hlt, by rw [hs]; exact g4, by simp [hold]; omega, ?_, fun _ => ⟨hbase, by rw [hs]; exact hz⟩⟩
    intro j v hv
    simp only []
    rw [hj]
    by_cases hjq : j < q
    · rw [List.getElem?_append_left (by omega)] at hv
      obtain ⟨v', a1, a2⟩ := g6 _ _ (hin j v hv)
      refine ⟨v', ?_, a2⟩
      rw [if_neg (by omega), ← a1]
      congr 1; omega
    · rw [List.getElem?_append_right (by omega)] at hv
      obtain ⟨v', a1, a2⟩ := hnew.get hv
      refine ⟨v', ?_, a2⟩
      have := (List.getElem?_eq_some_iff.1 hv).1
      rw [if_pos (by omega), ← a1]
      congr 1; omega
  · intro a k2 ha hk2 hcb _
    refine ⟨_, _, _, _, rfl, ?_⟩
    rcases hlive ha with rfl | ⟨hab, ha'⟩
    · simp
    · exact List.mem_cons_of_mem _ (h.byOld hb hl ha' hab hk2 hcb)
  · intro cs1 rw1 old1 esz1 e1 a ha ds rw' old' esz' k2 hx hk2 hcb
    cases e1
    simp only [List.length_append]
    by_cases hab : a = b
    · subst hab
      rw [Tr.get_set_eq] at hx; cases hx
      rw [hl] at hk2; cases hk2
      omega
    · rw [Tr.get_set_ne _ _ hab] at hx
      have hao := h.byOld hb hl ⟨_, hx, by simp⟩ hab hk2 hcb
      have := h.ends _ _ _ _ _ _ _ _ _ _ _ _ hx hb hao hk2 hl hcb
      omega
  · intro cs1 rw1 old1 esz1 e1
    cases e1
    exact h.oldsRo hb hl

theorem lenV_some {x x' : Value} {n : Nat} (h : lenV x = some n) (hx : VRel m x x') :
    (∀ w, (Builtin.lenOf x').run P w = .ok n w) ∧ ((∃ str, x = .string str ∧ n = str.size) ∨ ∃ a c, x = .slice a n c) := by
  unfold lenV at h
  split at h
  · rename_i a n' c
    obtain ⟨a', c', rfl⟩ := hx.slice_inv
    cases h
    exact ⟨fun w => rfl, .inr ⟨_, _, rfl⟩⟩
  · rename_i str
    cases hx.string_inv
    cases h
    exact ⟨fun w => rfl, .inl ⟨_, rfl, rfl⟩⟩
  · cases h

theorem size_zeroCells (z : Array Value) (n : Nat) : (Builtin.zeroCells z n).size = n * z.size := by simp [Builtin.zeroCells]

theorem grown_some {cs : List Value} {len k : Nat} {old : List Nat} {v : Value} {n : Nat} {H : Tr AObj} {lim : Nat} {log : List Acc} {s' : S} (e : grown cs len k old ⟨n, H, lim, log⟩ = some (v, s')) :
    k < 65536 ∧ cs.all oneCell = true ∧ v = .slice (some ⟨n, 0, none⟩) len (codeI len k) ∧ s' = ⟨n + 1, H.set n (.cells cs true old k), lim, log⟩ := by
  unfold grown at e
  cases hk : Nat.blt k 65536 with
  | false => rw [hk] at e; exact (M.fail_some e).elim
  | true =>
    rw [hk] at e
    rw [Nat.blt_eq] at hk
    obtain ⟨b, s1, h1, h2⟩ := M.bnd_some e
    obtain ⟨rfl, rfl⟩ := M.ret_some h2
    obtain ⟨g, rfl, rfl⟩ := newRow_some h1
    exact ⟨hk, g, by rw [mkSlice_eq], rfl⟩

theorem retire_some {k b upto n : Nat} {H : Tr AObj} {lim : Nat} {log : List Acc} {r : List Nat} {s' : S} (e : retire k b upto ⟨n, H, lim, log⟩ = some (r, s')) :
    ∃ cs, H.get b = some (.cells cs true r k) ∧ cs.length = upto ∧ s'.n = n ∧ s'.H = H.set b (.cells cs false r k) := by
  obtain ⟨x, hx, hh⟩ := touch_some e
  cases x with
  | cells cs rw old esz =>
    cases rw
    · rcases hh with ⟨hh, hs⟩ | ⟨y, hh, hs⟩ <;> simp at hh
    · cases hb : Nat.beq esz k && Nat.beq cs.length upto with
      | false => rcases hh with ⟨hh, hs⟩ | ⟨y, hh, hs⟩ <;> simp [hb] at hh
      | true =>
        rcases hh with ⟨hh, hs⟩ | ⟨y, hh, hs⟩
        · simp [hb] at hh
        · simp only [hb, Option.some.injEq, Prod.mk.injEq] at hh
          obtain ⟨rfl, rfl⟩ := hh
          simp only [Bool.and_eq_true] at hb
          have b1 := Nat.eq_of_beq_eq_true hb.1
          have b2 := Nat.eq_of_beq_eq_true hb.2
          subst b1
          exact ⟨cs, hx, b2, by rw [hs], by rw [hs]⟩
  | _ => rcases hh with ⟨hh, hs⟩ | ⟨y, hh, hs⟩ <;> simp at hh

theorem rdRow_some {b i k n : Nat} {H : Tr AObj} {lim : Nat} {log : List Acc} {r : List Value} {s' : S} (e : rdRow b i k ⟨n, H, lim, log⟩ = some (r, s')) :
    ∃ cs rw old esz, H.get b = some (.cells cs rw old esz) ∧ rowOf cs i k = some r := by
  obtain ⟨x, hx, hh⟩ := touch_some e
  cases x with
  | cells cs rw old esz =>
    cases hq : rowOf cs i k with
    | none => rcases hh with ⟨hh, hs⟩ | ⟨y, hh, hs⟩ <;> simp [seenO, hq] at hh
    | some q => rcases hh with ⟨hh, hs⟩ | ⟨y, hh, hs⟩ <;> simp [seenO, hq] at hh; exact ⟨_, _, _, _, hx, by rw [hq, hh]⟩
  | _ => rcases hh with ⟨hh, hs⟩ | ⟨y, hh, hs⟩ <;> simp [seenO] at hh

theorem sim_append (ok : POk P) (h : HRel m s.H w base) {ats : Array TypeId} {t u : TypeId} (ty : TypeId) (h0 : ats[0]? = some t) (h1 : ats[1]? = some u) {y x y' x' : Value} (hy : VRel m y y') (hx : VRel m x x') :
    Sim P base m s w (appB P t u y x) (Builtin.append_ ats ty #[y', x']) VRel := by
  have key : ((∃ q, P.underlying u = some (.slice q)) ∨ P.underlying u = some .string) → Sim P base m s w (appendV P t y x) (Builtin.append_ ats ty #[y', x']) VRel := by
    intro hu
    unfold appendV
    split
    · rename_i e a sLen code n ht hn
      split
      · rename_i i z hi hz
        cases hstr : strK i.size x with
        | false => exact Sim.fail
        | true =>
          simp only []
          intro v s' ex hf
          obtain ⟨new, s1, e1, e2⟩ := M.bnd_some ex
          obtain ⟨log1, new', rfl, n1, n2, n3, n4⟩ := rd_rdSlice (P := P) h i.size n hx e1
          obtain ⟨hlen, hkind⟩ := lenV_some hn hx
          obtain ⟨a', c', rfl⟩ := hy.slice_inv
          have hnl : new.length = n * i.size := by
            rcases hkind with ⟨str, rfl, rfl⟩ | ⟨q, r, rfl⟩
            · simp only [strK] at hstr
              rw [Nat.eq_of_beq_eq_true hstr, (n4 _ rfl).1, Nat.mul_one]
            · exact n3 ⟨_, _, _, rfl⟩
          have hnl' := n2.length
          have hzs : z.cells.size = i.size := by
            have := ok.zsize _ _ hz
            simp only [sizeOf', hi, Option.map_some, Option.some.injEq] at this
            rw [this, ← cells_cellsOf]; simp
          unfold appRow at e2
          cases hc : capOf a code with
          | mk c exq =>
          rw [hc] at e2
          simp only [] at e2
          cases hle : Nat.ble (sLen + n) c with
          | true =>
            rw [hle] at e2
            have hle := Nat.le_of_ble_eq_true hle
            simp only [] at e2
            -- the capacity serves
            have hcc : c ≤ c' := by
              cases hy with
              | atom k => simp [atomic] at k
              | nilSlice => simp [capOf] at hc; omega
              | sliceE hm => rw [capOf_odd] at hc; cases hc; omega
              | sliceI hm q1 q2 q3 q4 => rw [capOf_even _ _ q3] at hc; cases hc; omega
              | void => simp [capOf] at hc; omega
              | voidE => simp [capOf] at hc; omega
            have hle' : sLen + n ≤ c' := by omega
            unfold appIn at e2
            split at e2
            · cases hn0 : Nat.beq n 0 with
              | false => rw [hn0] at e2; exact (M.fail_some e2).elim
              | true =>
                rw [hn0] at e2
                have hn0 := Nat.eq_of_beq_eq_true hn0
                obtain ⟨hv0, hs0⟩ := M.ret_some e2
                clear e2
                subst hv0 hs0 hn0
                have hem : new'.toList = [] := by have := n2.length; exact List.length_eq_zero_iff.1 this.symm
                refine ⟨m, _, w, ?_, ⟨Ext.refl _ _ _, h, Below.refl _ _⟩, hy⟩
                cases a' with
                | none => exact run_append_nil0 h0 h1 ht hi hu (hlen w) hle' (n1 w rfl)
                | some a' => exact run_append_in h0 h1 ht hi hu (hlen w) hle' (n1 w rfl) (w' := w) (by rw [hem]; rfl)
            · rename_i b' i' hne _
              obtain ⟨u0, s2, e3, e4⟩ := M.bnd_some e2
              obtain ⟨rfl, rfl⟩ := M.ret_some e4
              rw [mkSlice_eq]
              have fin : ∀ l, m b' = some l → a' = some ⟨l.cb, l.off + i', none⟩ → (∀ m', MLe m m' → VRel m' (.slice (some ⟨b', i', none⟩) (sLen + n) code) (.slice a' (sLen + n) c')) →
                  ∃ m' b w', (Builtin.append_ ats ty #[.slice a' sLen c', x']).run P w = .ok b w' ∧ Step base m m' s.n s'.n s'.H w w' ∧ VRel m' (.slice (some ⟨b', i', none⟩) (sLen + n) code) b := by
                intro l hm ea hrel
                subst ea
                have hsim := sim_wrRow (P := P) (s := ⟨s.n, s.H, s.lim, log1⟩) h (b := b') (i := i' + sLen * i.size) hm n2
                obtain ⟨m', u1, w', r1, st, _⟩ := hsim _ _ e3 hf
                refine ⟨m', _, w', run_append_in h0 h1 ht hi hu (hlen w) hle' (n1 w rfl) ?_, st, hrel m' (st.ext.le hf)⟩
                rw [Addr.add_plain, Nat.add_assoc]; exact r1
              cases hy with
              | atom k => simp [atomic] at k
              | sliceE hm => exact fin _ hm rfl fun m' hm' => .sliceE (hm' _ _ hm)
              | sliceI hm q1 q2 q3 q4 =>
                rw [capOf_even _ _ q3] at hc
                cases hc
                exact fin _ hm rfl fun m' hm' => .sliceI (hm' _ _ hm) hle q2 q3 q4
            · exact (M.fail_some e2).elim
          | false =>
            rw [hle] at e2
            have hle : ¬ (sLen + n ≤ c) := fun hh => by rw [Nat.ble_eq_true_of_le hh] at hle; cases hle
            simp only [] at e2
            cases hb : Nat.ble ((sLen + n) * i.bytes) (2 ^ 40) && Nat.ble 1 i.bytes && Nat.ble 1 i.size with
            | false => rw [hb] at e2; exact (M.fail_some e2).elim
            | true =>
              rw [hb] at e2
              simp only [Bool.and_eq_true] at hb
              obtain ⟨⟨hb1, hb2⟩, hb3⟩ := hb
              have hb1 := Nat.le_of_ble_eq_true hb1
              have hb2 := Nat.le_of_ble_eq_true hb2
              have hb3 := Nat.le_of_ble_eq_true hb3
              simp only [] at e2
              obtain ⟨old, s2, e3, e4⟩ := M.bnd_some e2
              obtain ⟨log2, old', rfl, o1, o2, o3, _⟩ := rd_rdSlice (P := P) (s := ⟨s.n, s.H, s.lim, log1⟩) h i.size sLen hy e3
              have hol := o3 ⟨_, _, _, rfl⟩
              have hol' := o2.length
              simp only [Array.length_toList] at hol' hnl'
              -- a new row in a new block
              have fin : ∀ (olds : List Nat) (s3 : S) (H' : Tr AObj), HRel m H' w base → s3.H = H' → s3.n = s.n → ¬ (sLen + n ≤ c') → (∀ a ∈ olds, (∃ k, m a = some k) ∧ ∀ x, H'.get a = some x → x = .dead ∨ ∃ cs' old' esz', x = .cells cs' false old' esz') →
                  grown (old ++ new) (sLen + n) i.size olds s3 = some (v, s') →
                  ∃ m' b w', (Builtin.append_ ats ty #[.slice a' sLen c', x']).run P w = .ok b w' ∧ Step base m m' s.n s'.n s'.H w w' ∧ VRel m' v b := by
                intro olds s3 H' hr hH hsn hnle hro eg
                subst hH
                obtain ⟨cap, w1, g1, g2, g3, g4⟩ := run_append_out (P := P) (base := base) (w := w) (ty := ty) (b' := a') h0 h1 ht hi hu hz hlen hnle hb1 hb2 n1 o1
                have hsz : (old' ++ new' ++ Builtin.zeroCells z.cells (cap - (sLen + n))).size = cap * i.size := by
                  simp only [Array.size_append, size_zeroCells, hzs]
                  rw [← hol', ← hnl', hol, hnl, ← Nat.add_mul, ← Nat.add_mul]
                  congr 1; omega
                have := rel_grown (s := s3) hr eg (by rw [hsn]; exact hf) g2 g3 (c := old' ++ new' ++ Builtin.zeroCells z.cells (cap - (sLen + n))) (cap := cap) e
                  (by rw [hsz, List.length_append, hol, hnl, ← Nat.add_mul]; exact Nat.mul_le_mul_right _ g1)
                  (rowRel_append _ (by rw [Array.toList_append]; exact o2.append n2)) g1 (by rw [hsz]; exact Nat.le_refl _) hro
                obtain ⟨m', st, hv⟩ := this
                rw [hsn] at st
                refine ⟨m', _, _, g4, st, ?_⟩
                rw [g2]; exact hv
              unfold appOut at e4
              split at e4
              · -- the capacity is known
                have hnle : ¬ (sLen + n ≤ c') := by
                  cases hy with
                  | atom k => simp [atomic] at k
                  | nilSlice => simp [capOf] at hc; omega
                  | sliceE hm => rw [capOf_odd] at hc; cases hc; omega
                  | sliceI hm q1 q2 q3 q4 => rw [capOf_even _ _ q3] at hc; cases hc
                  | void => simp [capOf] at hc
                  | voidE => simp [capOf] at hc; omega
                exact fin [] ⟨s.n, s.H, s.lim, log2⟩ _ h rfl rfl hnle (by simp) e4
              · rename_i b' i' _ e4
                cases hes : Nat.beq (eszOf code) i.size with
                | false => rw [hes] at e4; exact (M.fail_some e4).elim
                | true =>
                  rw [hes] at e4
                  simp only [] at e4
                  obtain ⟨olds, s3, e5, e6⟩ := M.bnd_some e4
                  obtain ⟨cs, r1, r2, r3, r4⟩ := retire_some e5
                  cases hy with
                  | atom k => simp [atomic] at k
                  | sliceE hm => rw [capOf_odd] at hc; cases hc
                  | sliceI hm q1 q2 q3 q4 =>
                    rename_i l c0 k0 _
                    rw [eszOf_code _ q3] at hes
                    have hes := Nat.eq_of_beq_eq_true hes
                    subst hes
                    by_cases hin : sLen + n ≤ c'
                    · -- it grows where it lies
                      obtain ⟨n3', H3, lim3, log3⟩ := s3
                      obtain ⟨k1, k2, rfl, rfl⟩ := grown_some e6
                      simp only [] at r3 r4
                      subst r3 r4
                      have hn : m s.n = none := hf _ (Nat.le_refl _) (Nat.lt_succ_self _)
                      have hmul : (sLen + n) * i.size ≤ c' * i.size := Nat.mul_le_mul_right _ hin
                      rw [Nat.add_mul] at hmul
                      simp only [List.all_append, Bool.and_eq_true] at k2
                      obtain ⟨cs0, rw0, old0, esz0, t1, t2⟩ := rdRow_some e3
                      rw [r1] at t1
                      cases t1
                      obtain ⟨w', f1, f2, f3⟩ := core_grow (P := P) (k := i.size) (q := sLen * i.size) h r1 hm r2 hn hol (fun j v hv => by
                        have hj := (List.getElem?_eq_some_iff.1 hv).1
                        rw [← rowOf_get t2 j (by omega)]; exact hv) n2 k2.2 (by rw [hnl]; omega)
                      refine ⟨_, _, w', run_append_in h0 h1 ht hi hu (hlen w) hin (n1 w rfl) (by rw [Addr.add_plain]; exact f1), ⟨Ext.upd _ _ _, f2, f3⟩, ?_⟩
                      have := VRel.sliceI (m := upd m s.n ⟨l.cb, l.off + i', l.sz, i.size⟩) (b := s.n) (i := 0) (n := sLen + n) (c := sLen + n) (c' := c') (k := i.size) (upd_eq _ _ _) (Nat.le_refl _) hin q3 (by simpa using q4)
                      simpa using this
                    · exact fin _ s3 _ (h.retire1 r1) r4 r3 hin (h.oldsRo r1 hm) e6
              · exact (M.fail_some e4).elim
      · exact Sim.fail
    · exact Sim.fail
  unfold appB
  split
  · rename_i q hu; exact key (.inl ⟨_, hu⟩)
  · rename_i hu; exact key (.inr hu)
  · exact Sim.fail
end
end Go.Shade
