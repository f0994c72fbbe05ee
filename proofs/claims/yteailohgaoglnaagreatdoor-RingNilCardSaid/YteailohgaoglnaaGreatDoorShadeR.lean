/- The evaluator's operations beside the model's. Part 8: maps, panics, calls; the whole. -/
import Derived.Test.YteailohgaoglnaaGreatDoorShadeQ
namespace Go.Shade
open Go.RowKit
set_option linter.unusedVariables false

section
variable {P : Program} {base : Nat} {m : Mp} {s : S} {w : World}

theorem sameNow_rel {d : TypeDesc} {k e k' e' : Value} {b : Bool} (h : Instr.sameNow d k e = some b) (hk : VRel m k k') (he : VRel m e e') : k' = k ∧ e' = e := by
  unfold Instr.sameNow at h
  split at h
  · cases hk.int_inv; cases he.int_inv; exact ⟨rfl, rfl⟩
  · cases hk.string_inv; cases he.string_inv; exact ⟨rfl, rfl⟩
  · cases hk.bool_inv; cases he.bool_inv; exact ⟨rfl, rfl⟩
  · cases h
theorem sameNow_bits {d : TypeDesc} {k e : Value} (h : Instr.sameNow d k e = some true) : Instr.sameBits 10000 e k = true := by
  unfold Instr.sameNow at h
  split at h
  · split at h
    · rename_i e1; cases e1; simp at h; subst h; simp [Instr.sameBits]
    · cases h
  · rename_i a b; simp only [Option.some.injEq] at h; have h2 : (a.data == b.data) = true := h; have h3 := eq_of_beq h2; show (b == a) = true; show (b.data == a.data) = true; rw [h3]; simp
  · simp at h; subst h; simp [Instr.sameBits]
  · cases h

theorem findK_rel {d : TypeDesc} {k k' : Value} (hk : VRel m k k') : ∀ (es : List (Value × Value)) (ces : List MapEntry) (i : Nat) (r : Option (Nat × Value)), findK d k es i = some r → ces.length = es.length →
    (∀ (j : Nat) (p : Value × Value), es[j]? = some p → ∃ q : MapEntry, ces[j]? = some q ∧ VRel m p.1 q.key ∧ VRel m p.2 q.val) →
    (r = none ∧ Instr.findNow d k' ces i = some none) ∨ ∃ j v v', r = some (i + j, v) ∧ Instr.findNow d k' ces i = some (some (i + j, v')) ∧ VRel m v v' ∧ j < es.length ∧ ∃ q, ces[j]? = some q ∧ Instr.sameBits 10000 q.key k' = true
  | [], ces, i, r, h, hl, _ => by
    simp only [findK, Option.some.injEq] at h
    have : ces = [] := List.length_eq_zero_iff.1 (by simpa using hl)
    subst this
    exact .inl ⟨h.symm, rfl⟩
  | p :: es, [], i, r, h, hl, _ => by simp at hl
  | p :: es, q :: ces, i, r, h, hl, hr => by
    obtain ⟨q', h1, h2, h3⟩ := hr 0 p rfl
    simp only [List.getElem?_cons_zero, Option.some.injEq] at h1
    subst h1
    simp only [findK] at h
    cases hs : Instr.sameNow d k p.1 with
    | none => simp [hs] at h
    | some b =>
      obtain ⟨e1, e2⟩ := sameNow_rel hs hk h2
      have hs' : Instr.sameNow d k' q.key = some b := by rw [e1, e2]; exact hs
      cases b with
      | true =>
        simp only [hs, Option.some.injEq] at h
        exact .inr ⟨0, p.2, q.val, h.symm, by simp [Instr.findNow, hs'], h3, by simp, q, rfl, sameNow_bits hs'⟩
      | false =>
        simp only [hs] at h
        rcases findK_rel hk es ces (i + 1) r h (by simpa using hl) (fun j p hp => by simpa using hr (j + 1) p (by simpa using hp)) with ⟨g1, g2⟩ | ⟨j, v, v', g1, g2, g3, g4, q', g5, g6⟩
        · exact .inl ⟨g1, by simp [Instr.findNow, hs', g2]⟩
        · exact .inr ⟨j + 1, v, v', by rw [g1, Nat.add_assoc, Nat.add_comm 1], by simp [Instr.findNow, hs', g2, Nat.add_assoc, Nat.add_comm 1], g3, by simp; omega, q', by simpa using g5, g6⟩

theorem run_checkPlain {kt : TypeId} {d : TypeDesc} (hu : P.underlying kt = some d) (hd : plainKey d = true) (e : Bool) (k : Value) : (Instr.checkKey e 10000 kt k).run P w = .ok () w := by
  show (Instr.checkKey e (9999 + 1) kt k).run P w = .ok () w
  unfold Instr.checkKey
  simp only [Sem.run_bind, run_under hu, Result.andThen_ok]
  cases d <;> simp [plainKey] at hd <;> rfl

theorem run_findKey {kt : TypeId} {d : TypeDesc} (hu : P.underlying kt = some d) {k : Value} {l : List MapEntry} {r : Option (Nat × Value)} (h : Instr.findNow d k l 0 = some r) : (Instr.findKey kt k l).run P w = .ok r w := by
  simp [Instr.findKey, run_under hu, h]

theorem run_lookIn (ok : POk P) {kt et : TypeId} {k k' : Value} (hk : VRel m k k') {okk : Bool} {es : List (Value × Value)} {ces : Array MapEntry} (h4 : ces.size = es.length)
    (h5 : ∀ (j : Nat) (p : Value × Value), es[j]? = some p → ∃ q : MapEntry, ces[j]? = some q ∧ VRel m p.1 q.key ∧ VRel m p.2 q.val) {r : Res} {s' : S} (e : lookIn P kt et k okk es s = some (r, s')) :
    s' = s ∧ ∃ v v', r = .val v ∧ VRel m v v' ∧ (do Instr.checkKey ces.isEmpty 10000 kt k'; match ← Instr.findKey kt k' ces.toList with | some (_, v) => (do let x ← pure (v, true); pure (if okk then .tuple #[x.1, .bool x.2] else x.1)) | none => (do let z ← zeroValue et; let x ← pure (z, false); pure (if okk then .tuple #[x.1, .bool x.2] else x.1)) : Sem Value).run P w = .ok v' w := by
  unfold lookIn at e
  cases hu : P.underlying kt with
  | none => rw [hu] at e; exact (M.fail_some e).elim
  | some d =>
    rw [hu] at e
    simp only [] at e
    cases hp : plainKey d with
    | false => rw [hp] at e; exact (M.fail_some e).elim
    | true =>
      rw [hp] at e
      cases hf : findK d k es 0 with
      | none => rw [hf] at e; exact (M.fail_some e).elim
      | some q =>
        rw [hf] at e
        simp only [] at e
        rcases findK_rel hk es ces.toList 0 q hf (by simpa using h4) (fun j p hp => by simpa using h5 j p hp) with ⟨rfl, g2⟩ | ⟨j, v, v', rfl, g2, g3, _⟩
        · unfold found at e
          cases hz : zero' P et with
          | none => rw [hz] at e; exact (M.fail_some e).elim
          | some z =>
            rw [hz] at e
            obtain ⟨rfl, rfl⟩ := M.ret_some e
            refine ⟨rfl, _, (if okk then .tuple #[z, .bool false] else z), rfl, ?_, ?_⟩
            · have := closed_rel m _ _ (ok.zero _ _ hz)
              cases okk
              · exact this
              · exact .tuple (.cons this (.cons (.atom rfl) .nil))
            · simp [run_checkPlain hu hp, run_findKey hu g2, run_zero hz]
        · unfold found at e
          obtain ⟨rfl, rfl⟩ := M.ret_some e
          refine ⟨rfl, _, (if okk then .tuple #[v', .bool true] else v'), rfl, ?_, ?_⟩
          · cases okk
            · exact g3
            · exact .tuple (.cons g3 (.cons (.atom rfl) .nil))
          · simp [run_checkPlain hu hp, run_findKey hu g2]

theorem sim_lookup (ok : POk P) (h : HRel m s.H w base) (t : TypeId) (okk : Bool) {x x' k k' : Value} (hx : VRel m x x') (hk : VRel m k k') : Sim P base m s w (opLookup P t x k okk) (Instr.lookup t x' k' okk) VR := by
  unfold opLookup
  split
  · rename_i kt et hu
    cases hx.mapNil_inv
    intro r s' e hf
    obtain ⟨rfl, v, v', rfl, g1, g2⟩ := run_lookIn (P := P) (w := w) ok hk (ces := #[]) rfl (by simp) e
    refine ⟨m, v', w, ?_, ⟨Ext.refl _ _ _, h, Below.refl _ _⟩, v, rfl, g1⟩
    simp only [Instr.lookup, Sem.run_bind, run_under hu, Result.andThen_ok, Sem.run_pure] at g2 ⊢
    exact g2
  · rename_i kt et q hu
    obtain ⟨l, hm, rfl⟩ := hx.map_inv
    intro r s' e hf
    obtain ⟨es, s1, e1, e2⟩ := M.bnd_some e
    obtain ⟨hr, rfl⟩ := getMap_some (n := s.n) (H := s.H) (lim := s.lim) (log := s.log) e1
    obtain ⟨ces, clock, g1, g2, g3, g4⟩ := h.map_at hr hm
    obtain ⟨rfl, v, v', rfl, f1, f2⟩ := run_lookIn (P := P) (w := w) ok hk g3 g4 e2
    refine ⟨m, v', w, ?_, ⟨Ext.refl _ _ _, h, Below.refl _ _⟩, v, rfl, f1⟩
    simp only [Instr.lookup, Sem.run_bind, run_under hu, Result.andThen_ok, Sem.run_pure, run_getO g2] at f2 ⊢
    exact f2
  · exact Sim.fail

theorem sim_mapUpdate (h : HRel m s.H w base) (t : TypeId) {x x' k k' v v' : Value} (hx : VRel m x x') (hk : VRel m k k') (hv : VRel m v v') :
    Sim P base m s w (opMapUpdate P t x k v) (Instr.mapUpdate t x' k' v') fun _ r _ => r = .val undefV := by
  unfold opMapUpdate
  split
  · rename_i kt et q hu
    obtain ⟨l, hm, rfl⟩ := hx.map_inv
    intro r s' e hf
    obtain ⟨es, s1, e1, e2⟩ := M.bnd_some e
    obtain ⟨hr, rfl⟩ := getMap_some (n := s.n) (H := s.H) (lim := s.lim) (log := s.log) e1
    obtain ⟨ces, clock, g1, g2, g3, g4⟩ := h.map_at hr hm
    unfold storeIn at e2
    cases hud : P.underlying kt with
    | none => rw [hud] at e2; exact (M.fail_some e2).elim
    | some d =>
      rw [hud] at e2
      simp only [] at e2
      cases hp : plainKey d with
      | false => rw [hp] at e2; exact (M.fail_some e2).elim
      | true =>
        rw [hp] at e2
        cases hfk : findK d k es 0 with
        | none => rw [hfk] at e2; exact (M.fail_some e2).elim
        | some q2 =>
          rw [hfk] at e2
          rcases findK_rel hk es ces.toList 0 q2 hfk (by simpa using g3) (fun j p hp => by simpa using g4 j p hp) with ⟨rfl, f2⟩ | ⟨j, v0, v0', rfl, f2, f3, f4, en, f5, f6⟩
          · simp only [] at e2
            obtain ⟨u, s2, e3, e4⟩ := M.bnd_some e2
            obtain ⟨rfl, rfl⟩ := M.ret_some e4
            obtain ⟨_, rfl⟩ := setMap_some e3
            refine ⟨m, (), putObj w l.cb (.map (ces.push { key := k', val := v', born := clock }) (clock + 1)), ?_, ⟨Ext.refl _ _ _, h.turn hr hm g1 (.inr ⟨_, rfl⟩) (.inr ⟨_, _, _, rfl, rfl, by simp [g3], ?_⟩), putObj_below _ _ _ _ g1⟩, rfl⟩
            · simp [Instr.mapUpdate, run_under hu, run_getO g2, run_checkPlain hud hp, run_findKey hud f2, run_setO _ g2]
            · intro i p hp
              by_cases hi : i < es.length
              · rw [List.getElem?_append_left hi] at hp
                obtain ⟨q, a1, a2, a3⟩ := g4 i p hp
                exact ⟨q, by rw [Array.getElem?_push, if_neg (by omega)]; exact a1, a2, a3⟩
              · rw [List.getElem?_append_right (by omega)] at hp
                have hi2 : i - es.length = 0 := by
                  have := (List.getElem?_eq_some_iff.1 hp).1
                  simp at this; omega
                rw [hi2] at hp
                simp only [List.getElem?_cons_zero, Option.some.injEq] at hp
                subst hp
                exact ⟨_, by rw [Array.getElem?_push, if_pos (by omega)], hk, hv⟩
          · simp only [Nat.zero_add] at e2 f2
            obtain ⟨u, s2, e3, e4⟩ := M.bnd_some e2
            obtain ⟨rfl, rfl⟩ := M.ret_some e4
            obtain ⟨_, rfl⟩ := setMap_some e3
            have f5' : ces[j]? = some en := by simpa using f5
            refine ⟨m, (), putObj w l.cb (.map (ces.modify j fun e => { e with key := k', val := v' }) clock), ?_, ⟨Ext.refl _ _ _, h.turn hr hm g1 (.inr ⟨_, rfl⟩) (.inr ⟨_, _, _, rfl, rfl, by simp [g3], ?_⟩), putObj_below _ _ _ _ g1⟩, rfl⟩
            · simp [Instr.mapUpdate, run_under hu, run_getO g2, run_checkPlain hud hp, run_findKey hud f2, f5', Instr.keyThatStays, f6, run_setO _ g2]
            · intro i p hp
              by_cases hij : i = j
              · subst hij
                rw [List.getElem?_set_self f4] at hp
                cases hp
                exact ⟨{ en with key := k', val := v' }, by rw [Array.getElem?_modify]; simp [f5'], hk, hv⟩
              · rw [List.getElem?_set_ne (Ne.symm hij)] at hp
                obtain ⟨q, a1, a2, a3⟩ := g4 i p hp
                exact ⟨q, by rw [Array.getElem?_modify, if_neg (Ne.symm hij)]; exact a1, a2, a3⟩
  · exact Sim.fail
end
end Go.Shade
