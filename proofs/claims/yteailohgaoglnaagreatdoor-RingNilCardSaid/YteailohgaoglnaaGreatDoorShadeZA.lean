/- Calls, beside the machine's. -/
import Derived.Test.YteailohgaoglnaaGreatDoorShadeZ
namespace Go.Shade
open Go.RowKit
set_option linter.unusedVariables false

structure ProgOK (P : Program) : Prop where
  types : POk P
  code : ∀ (f : FuncId) (fn : Func) (c : Code), P.funcs[f]? = some fn → fn.body = some c → fn.name ≠ "runtime.NumGoroutine" ∧ okC P c = true
  fol : P.follows .mixedOrders = true

section
variable {P : Program} {base : Nat} {call : CallSem} {f : FuncId} {p' : Option Value} {m : Mp} {s : S} {w : World} {fr : Fr} {a : Act}

theorem rd_loadV (h : HRel m s.H w base) (t : TypeId) {b i : Nat} {l : Lc} (hl : m b = some l) {r : Value} {s' : S} (e : loadV P t b i s = some (r, s')) :
    s'.n = s.n ∧ s'.H = s.H ∧ ∃ v', (loadVar t ⟨l.cb, l.off + i, none⟩).run P w = .ok v' w ∧ VRel m r v' := by
  unfold loadV at e
  cases ha : isAgg' P t with
  | none => rw [ha] at e; exact (M.fail_some (s := s) e).elim
  | some q =>
    rw [ha] at e
    cases q with
    | true =>
      cases hk : sizeOf' P t with
      | none => rw [hk] at e; exact (M.fail_some (s := s) e).elim
      | some k =>
        rw [hk] at e
        obtain ⟨cs, s1, e1, e2⟩ := M.bnd_some e
        obtain ⟨log', arr, rfl, h1, h2, h3, _⟩ := rd_rdRow (P := P) h hl e1
        obtain ⟨rfl, rfl⟩ := M.ret_some e2
        refine ⟨rfl, rfl, .agg arr, ?_, .agg (by simpa using h2)⟩
        simp [loadVar, run_isAgg ha, run_sizeOf hk, h1 w rfl]
    | false =>
      simp only [] at e
      obtain ⟨n, H, lim, log⟩ := s
      obtain ⟨x, hx, hh⟩ := touch_some e
      obtain ⟨cs, rw, old, esz, rfl, hr, hs⟩ : ∃ cs rw old esz, x = .cells cs rw old esz ∧ cs[i]? = some r ∧ s' = ⟨n, H, lim, note b lim log false⟩ := by
        rcases hh with ⟨hh, hs⟩ | ⟨y, hh, hs⟩ <;> cases x <;> simp only [seenO] at hh <;> (try cases hh)
        · rename_i cs rw old esz
          cases hq : nth cs i with
          | none => simp [hq] at hh
          | some q => simp only [hq, Option.some.injEq, Prod.mk.injEq, and_true] at hh; subst hh; exact ⟨cs, rw, old, esz, rfl, by rw [← nth_eq]; exact hq, hs⟩
        · split at hh <;> cases hh
      subst hs
      obtain ⟨l', c, e1, fz, h1, h2, h3, h4, h5, h6, h7⟩ := h.cells _ _ _ _ _ hx
      rw [hl] at h1; cases h1
      obtain ⟨v', a1, a2⟩ := h6 i r hr
      refine ⟨rfl, rfl, v', ?_, a2⟩
      simp only [loadVar, Sem.run_bind, run_isAgg ha, Result.andThen_ok, Bool.false_eq_true, if_false]
      rw [run_load, cell_of h3, a1]

def resOf (t : Array Value) : ResultVar → Sem Value
  | .tmp i => pure (t.getD i undef)
  | .cell i ty => do loadVar ty (← asAddr (t.getD i undef))

theorem rd_results {T : Tr Value} {t : Array Value} (hT : TRel m T t) : ∀ (l : List ResultVar) (s : S) (vs : List Value) (s' : S), HRel m s.H w base → evResults P T l s = some (vs, s') →
    s'.n = s.n ∧ s'.H = s.H ∧ ∃ vs', (l.mapM (resOf t)).run P w = .ok vs' w ∧ VRelL m vs vs'
  | [], s, vs, s', h, e => by
    obtain ⟨rfl, rfl⟩ := M.ret_some e
    exact ⟨rfl, rfl, [], rfl, .nil⟩
  | .tmp i :: l, s, vs, s', h, e => by
    simp only [evResults] at e
    obtain ⟨r, s1, e1, e2⟩ := M.bnd_some e
    obtain ⟨rfl, rfl⟩ := M.ret_some e2
    obtain ⟨h1, h2, vs', h3, h4⟩ := rd_results hT l s r s' h e1
    exact ⟨h1, h2, t.getD i undef :: vs', by rw [List.mapM_cons]; simp only [Sem.run_bind, resOf, Sem.run_pure, Result.andThen_ok, h3], .cons (hT i) h4⟩
  | .cell i ty :: l, s, vs, s', h, e => by
    simp only [evResults] at e
    cases ha : addrOf (tmpOf T i) with
    | none => rw [ha] at e; exact (M.fail_some (s := s) e).elim
    | some q =>
      obtain ⟨b, j⟩ := q
      rw [ha] at e
      simp only [] at e
      obtain ⟨v, s1, e1, e2⟩ := M.bnd_some e
      obtain ⟨r, s2, e3, e4⟩ := M.bnd_some e2
      obtain ⟨rfl, rfl⟩ := M.ret_some e4
      have hv := hT i
      rw [addrOf_some ha] at hv
      obtain ⟨lc, hm, hp⟩ := hv.ptr_inv
      obtain ⟨g1, g2, v', g3, g4⟩ := rd_loadV h ty hm e1
      obtain ⟨h1, h2, vs', h3, h4⟩ := rd_results hT l s1 r s' (by rw [g2]; exact h) e3
      refine ⟨by rw [h1, g1], by rw [h2, g2], v' :: vs', ?_, .cons g4 h4⟩
      rw [List.mapM_cons]
      simp only [Sem.run_bind, resOf, hp, asAddr, Sem.run_pure, Result.andThen_ok, g3, h3]

theorem run_results {T : Tr Value} {t : Array Value} (hT : TRel m T t) (fn : Func) {vs : List Value} {s' : S} (h : HRel m s.H w base) (e : evResults P T fn.results.toList s = some (vs, s')) :
    s'.n = s.n ∧ s'.H = s.H ∧ ∃ v', (results fn t).run P w = .ok v' w ∧ VRel m (tupled vs) v' := by
  obtain ⟨h1, h2, vs', h3, h4⟩ := rd_results hT _ _ _ _ h e
  refine ⟨h1, h2, (if h : vs'.toArray.size = 1 then vs'.toArray[0] else .tuple vs'.toArray), ?_, ?_⟩
  · have hm : (fn.results.mapM (resOf t)).run P w = .ok vs'.toArray w := by
      rw [Array.mapM_eq_mapM_toList, Sem.run_map, h3]; rfl
    have : results fn t = (do let vs ← fn.results.mapM (resOf t); pure (if h : vs.size = 1 then vs[0] else .tuple vs)) := by
      unfold results
      congr 1
    rw [this, Sem.run_bind, hm]
    rfl
  · cases h4 with
    | nil => exact .tuple .nil
    | cons a b =>
      cases b with
      | nil => exact a
      | cons b c => simpa [tupled] using VRel.tuple (c := (_ :: _ :: _ : List Value).toArray) (c' := (_ :: _ :: _ : List Value).toArray) (.cons a (.cons b c))

theorem settle_mode (p : Option Value) : settle (modeOf p) = modeOf p := by cases p <;> rfl
theorem mode_ne (p : Option Value) : modeOf p ≠ .run := by cases p <;> simp [modeOf]

def UnwOut (P : Program) (f : FuncId) (fn : Func) (t : Array Value) (recd : Bool) (p2 : Option Value) (ds' : List Deferred) (w : World) (m' : Mp) (w' : World) : COut → Prop
  | .ret v recd' => recd' = recd ∧ ∃ v', VRel m' v v' ∧ (results fn t).run P w' = .ok v' w' ∧ ∀ (fr0 : Frame) (cs : List Frame), fr0.mode = modeOf p2 → fr0.defers = ds' → fr0.tmps = t → fr0.fn = f →
      ∃ fr1, Steps P (lone fr0 cs w) (lone fr1 cs w') ∧ fr1.fn = f ∧ fr1.kind = fr0.kind ∧ fr1.mode = .returning ∧ fr1.defers = [] ∧ fr1.tmps = t
  | .panic v => ∃ v', VRel m' v v' ∧ ∀ (fr0 : Frame) (cs : List Frame), fr0.mode = modeOf p2 → fr0.defers = ds' → fr0.tmps = t → fr0.fn = f →
      ∃ fr1, Steps P (lone fr0 cs w) (lone fr1 cs w') ∧ fr1.fn = f ∧ fr1.kind = fr0.kind ∧ fr1.mode = .panicking [{ v := v', recovered := false }] ∧ fr1.defers = []

/-- The deferred calls, and what comes of the whole. -/
theorem sim_unwind (hc : CallOK P base call) (mc : MonoCall call) {fn : Func} (hfn : P.funcs[f]? = some fn) {T : Tr Value} {t : Array Value} (recd : Bool) : ∀ (ds : List (FuncId × List Value)) (pan : Option Value) (m : Mp) (s : S) (w : World) (p2 : Option Value) (ds' : List Deferred) (r : COut) (s' : S),
    TRel m T t → DRel m ds ds' → PanRel m pan false p2 → HRel m s.H w base → Glob P m → evUnwind P call fn.results.toList T recd ds pan s = some (r, s') → Fresh m s.n s'.n →
    ∃ m' w', Step base m m' s.n s'.n s'.H w w' ∧ UnwOut P f fn t recd p2 ds' w m' w' r
  | [], none, m, s, w, p2, ds', r, s', hT, hd, hp, h, hG, e, hf => by
    cases hd
    obtain rfl : p2 = none := by
      rcases hp with ⟨_, _, hp⟩ | ⟨_, _, hp, _⟩ | ⟨_, hp, _⟩
      · exact hp
      · cases hp
      · cases hp
    simp only [evUnwind] at e
    obtain ⟨vs, s1, e1, e2⟩ := M.bnd_some e
    obtain ⟨rfl, rfl⟩ := M.ret_some e2
    obtain ⟨h1, h2, v', h3, h4⟩ := run_results hT fn h e1
    refine ⟨m, w, ⟨Ext.refl _ _ _, by rw [h2]; exact h, Below.refl _ _⟩, rfl, v', h4, h3, fun fr0 cs a1 a2 a3 a4 => ⟨fr0, Steps.refl P _, a4, rfl, a1, a2, a3⟩⟩
  | [], some v, m, s, w, p2, ds', r, s', hT, hd, hp, h, hG, e, hf => by
    cases hd
    simp only [evUnwind] at e
    obtain ⟨rfl, rfl⟩ := M.ret_some e
    rcases hp with ⟨hp, _⟩ | ⟨v1, v', h1, _, rfl, hv⟩ | ⟨hp, _⟩
    · cases hp
    · cases h1
      exact ⟨m, w, Step.refl h, v', hv, fun fr0 cs a1 a2 a3 a4 => ⟨fr0, Steps.refl P _, a4, rfl, a1, a2⟩⟩
    · cases hp
  | (g, args) :: ds, pan, m, s, w, p2, ds', r, s', hT, hd, hp, h, hG, e, hf => by
    cases hd with
    | cons ha hd =>
      rename_i as c l'
      simp only [evUnwind] at e
      obtain ⟨o, s1, e1, e2⟩ := M.bnd_some e
      cases o with
      | panic v => exact (M.fail_some (s := s1) e2).elim
      | ret v recd2 =>
        have l1 := mc _ _ _ _ _ _ e1
        obtain ⟨fg, cg, k1, k2, k3⟩ := hc.code _ _ _ _ _ e1
        -- how the rest goes
        have rest : ∀ pan3 p3, PanRel m pan3 false p3 → (recd2 = true → p3 = none) → (recd2 = false → p3 = p2) → evUnwind P call fn.results.toList T recd ds pan3 s1 = some (r, s') → s1.n ≤ s'.n →
            ∃ m' w', Step base m m' s.n s'.n s'.H w w' ∧ UnwOut P f fn t recd p2 ({ target := .fn (.func g) c, args := as } :: l') w m' w' r := by
          intro pan3 p3 hp3 ht3 hf3 e3 l2
          obtain ⟨m1, w1, st1, v', hv, hrec, hrun⟩ := hc.run g args pan _ _ _ _ _ (as ++ c) p2 e1 (hf.left l2) h hG ha hp
          have hle := st1.ext.le (hf.left l2)
          obtain ⟨m2, w2, st2, out⟩ := sim_unwind hc mc hfn recd ds pan3 m1 s1 w1 p3 l' r s' (fun i => (hT i).mono hle) (hd.mono hle) (hp3.mono hle) st1.rel (hG.mono hle) e3 (hf.right st1.ext l1)
          -- the step into the deferred call and back
          have go : ∀ (fr0 : Frame) (cs : List Frame), fr0.mode = modeOf p2 → fr0.defers = { target := .fn (.func g) c, args := as } :: l' → fr0.tmps = t → fr0.fn = f →
              Steps P (lone fr0 cs w) (lone { fr0 with defers := l', mode := modeOf p3 } cs w1) := by
            intro fr0 cs a1 a2 a3 a4
            have hinv : (invoke (.fn (.func g) c) as).run P w = .ok (.enter g (as ++ c)) w := by
              simp only [invoke, callFunc]
              have hb2 : fg.body.isNone = false := by simp [k2]
              simp [k1, k3, hb2]
              intro hn; rw [k2] at hn; cases hn
            have h1 := step_defer (P := P) (fr := fr0) (cs := cs) (w := w) (by rw [a1]; exact mode_ne p2) a2 rfl hinv
            obtain ⟨fr1, hs, b1, b2, b3, b4, fn', b5, b6⟩ := hrun .deferred ({ fr0 with defers := l' } :: cs) (.inr ⟨rfl, _, _, rfl, a1⟩)
            refine .head h1 (.trans hs ?_)
            have hcs : ∃ u, csOf p2 recd2 ({ fr0 with defers := l' } :: cs) = { fr0 with defers := l', mode := u } :: cs ∧ settle u = modeOf p3 := by
              cases recd2 with
              | false => rw [hf3 rfl]; exact ⟨modeOf p2, by rw [← a1]; cases p2 <;> rfl, settle_mode p2⟩
              | true =>
                obtain ⟨v0, hv0⟩ := hrec rfl
                subst hv0
                rw [ht3 rfl]
                exact ⟨.panicking [{ v := v0, recovered := true }], rfl, rfl⟩
            obtain ⟨u, hu, hsu⟩ := hcs
            rw [hu]
            have h2 := step_going_returned (P := P) (fr := fr1) (c := { fr0 with defers := l', mode := u }) (cs := cs) (w := w1) (v := v') b2 ⟨b3, b4, fn', by rw [b1]; exact b5, b6⟩
            rw [hsu] at h2
            exact .one h2
          refine ⟨m2, w2, st1.trans st2 l1 l2, ?_⟩
          cases r with
          | ret v recd' =>
            obtain ⟨q1, v', q2, q3, q4⟩ := out
            refine ⟨q1, v', q2, q3, fun fr0 cs a1 a2 a3 a4 => ?_⟩
            obtain ⟨fr1, hs, b⟩ := q4 { fr0 with defers := l', mode := modeOf p3 } cs rfl rfl a3 a4
            exact ⟨fr1, (go fr0 cs a1 a2 a3 a4).trans hs, b⟩
          | panic v =>
            obtain ⟨v', q2, q4⟩ := out
            refine ⟨v', q2, fun fr0 cs a1 a2 a3 a4 => ?_⟩
            obtain ⟨fr1, hs, b⟩ := q4 { fr0 with defers := l', mode := modeOf p3 } cs rfl rfl a3 a4
            exact ⟨fr1, (go fr0 cs a1 a2 a3 a4).trans hs, b⟩
        cases recd2 with
        | true => exact rest none none (.inl ⟨rfl, rfl, rfl⟩) (fun _ => rfl) (fun h => by cases h) e2 (Mono.evUnwind P mc _ _ _ ds none _ _ _ e2)
        | false => exact rest pan p2 hp (fun h => by cases h) (fun _ => rfl) e2 (Mono.evUnwind P mc _ _ _ ds pan _ _ _ e2)

theorem tmpsOf_get : ∀ (l : List Value) (i : Nat) (T : Tr Value) (q : Nat), tmpOf (tmpsOf l i T) q = if i ≤ q ∧ q < i + l.length then (l[q - i]?).getD undefV else tmpOf T q
  | [], i, T, q => by rw [if_neg (by simp)]; rfl
  | v :: l, i, T, q => by
    simp only [tmpsOf]
    rw [tmpsOf_get l (i + 1) (T.set i v) q]
    by_cases h1 : i + 1 ≤ q ∧ q < i + 1 + l.length
    · rw [if_pos h1, if_pos (by simp; omega), show q - i = (q - (i + 1)) + 1 from by omega]
      simp
    · rw [if_neg h1]
      by_cases hq : q = i
      · subst hq
        rw [if_pos (by simp)]
        simp [tmpOf, Tr.get_set_eq]
      · rw [if_neg (by simp; omega)]
        simp [tmpOf, Tr.get_set_ne _ _ hq]

theorem enter_tmps {args : List Value} {args' : Array Value} (h : VRelL m args args'.toList) (k : Nat) : TRel m (tmpsOf args 0 .nil) (args' ++ Array.replicate k undef) := by
  intro q
  rw [tmpsOf_get]
  have hlen := h.length
  simp only [Array.length_toList] at hlen
  by_cases hq : q < args.length
  · rw [if_pos (by omega)]
    obtain ⟨v', h1, h2⟩ := h.get (i := q) (v := args[q]) (List.getElem?_eq_getElem hq)
    have : (args' ++ Array.replicate k undef).getD q undef = v' := by
      have h3 : args'[q]? = some v' := by rw [← Array.getElem?_toList]; exact h1
      simp [Array.getElem?_append_left (show q < args'.size from by omega), h3]
    rw [this]
    simpa [hq] using h2
  · rw [if_neg (by omega)]
    have h1 : tmpOf .nil q = undefV := by simp [tmpOf, Tr.get_nil]
    have h2 : (args' ++ Array.replicate k undef).getD q undef = undef := by
      rw [Array.getD_eq_getD_getElem?, Array.getElem?_append_right (by omega)]
      by_cases hk : q - args'.size < k
      · simp [Array.getElem?_replicate, hk]
      · simp [Array.getElem?_replicate, hk]
    rw [h1, h2]
    exact undef_rel m

/-- A function's call. -/
theorem sim_enter (pok : ProgOK P) (hc : CallOK P base call) (mc : MonoCall call) (lc : LocalCall call) (lf : Nat) {fn : Func} (hfn : P.funcs[f]? = some fn) {args : List Value} {pan : Option Value} {r : COut} {s s' : S} {m : Mp} {w : World} {args' : Array Value} {p' : Option Value}
    (e : enterF P call lf fn args pan s = some (r, s')) (hf : Fresh m s.n s'.n) (h : HRel m s.H w base) (hG : Glob P m) (ha : VRelL m args args'.toList) (hp : PanRel m pan false p') :
    ∃ m' w', Step base m m' s.n s'.n s'.H w w' ∧ CallOut P f args' p' w m' w' r := by
  unfold enterF at e
  cases hb : fn.body with
  | none => rw [hb] at e; exact (M.fail_some (s := s) e).elim
  | some c =>
    rw [hb] at e
    simp only [] at e
    obtain ⟨⟨out, fr1⟩, s1, e1, e2⟩ := M.bnd_some e
    have l1 := Mono.evC P mc lf c _ _ _ _ e1
    have l2 := Mono.leave P mc fn.results.toList (out, fr1) _ _ _ e2
    let a0 : Act := { tmps := args' ++ Array.replicate (fn.ntmps - args'.size) undef, defers := [] }
    have hfr : FrRel m ⟨tmpsOf args 0 .nil, fn.ntmps, [], pan, false⟩ a0 := ⟨enter_tmps ha _, by simp [a0]; omega, .nil⟩
    obtain ⟨m1, a1, w1, ex, st1, f1, p1, o1, r1⟩ := sim_code (f := f) pok.types hc mc lc pok.fol lf c (pok.code f fn c hfn hb).2 _ a0 m s w hfr hp h hG out fr1 s1 e1 (hf.left l2)
    have hle := st1.ext.le (hf.left l2)
    have henter : ∀ kind, Frame.enter P f args' kind = ({ (default : Frame) with fn := f, kind := kind } : Frame).at a0 [.code c] := by
      intro kind; simp [Frame.enter, Frame.at, hfn, hb, a0]
    obtain ⟨T, nt, defs, pan1, recd⟩ := fr1
    -- from the frame that leaves to the end
    have fin : ∀ pan2 p2, PanRel m1 pan2 false p2 → evUnwind P call fn.results.toList T recd defs pan2 s1 = some (r, s') →
        (∀ kind cs, CsOk kind p' cs → ∃ todo, Steps P (lone (Frame.enter P f args' kind) cs w) (lone { ({ (default : Frame) with fn := f, kind := kind } : Frame).at a1 todo with mode := modeOf p2 } (csOf p' recd cs) w1)) →
        ∃ m' w', Step base m m' s.n s'.n s'.H w w' ∧ CallOut P f args' p' w m' w' r := by
      intro pan2 p2 hp2 e3 hsteps
      obtain ⟨m2, w2, st2, o⟩ := sim_unwind hc mc hfn recd defs pan2 m1 s1 w1 p2 a1.defers r s' f1.tmps f1.defs hp2 st1.rel (hG.mono hle) e3 (hf.right st1.ext l1)
      refine ⟨m2, w2, st1.trans st2 l1 l2, ?_⟩
      cases r with
      | ret v recd' =>
        obtain ⟨rfl, v', q1, q2, q3⟩ := o
        refine ⟨v', q1, ?_, fun kind cs hcs => ?_⟩
        · intro hr
          rcases p1 with ⟨_, h2, _⟩ | ⟨_, _, _, h2, _⟩ | ⟨_, _, h3⟩
          · simp only [] at h2; rw [h2] at hr; cases hr
          · simp only [] at h2; rw [h2] at hr; cases hr
          · exact h3
        · obtain ⟨todo, hs⟩ := hsteps kind cs hcs
          obtain ⟨fr2, k1, k2, k3, k4, k5, k6⟩ := q3 { ({ (default : Frame) with fn := f, kind := kind } : Frame).at a1 todo with mode := modeOf p2 } (csOf p' recd' cs) rfl rfl rfl rfl
          exact ⟨fr2, hs.trans k1, k2, k3, k4, k5, fn, hfn, by rw [k6]; exact q2⟩
      | panic v =>
        intro hpn
        subst hpn
        obtain ⟨v', q1, q3⟩ := o
        refine ⟨v', q1, fun cs => ?_⟩
        obtain ⟨todo, hs⟩ := hsteps .normal cs (.inl ⟨rfl, rfl⟩)
        obtain ⟨fr2, k1, k2, k3, k4, k5⟩ := q3 { ({ (default : Frame) with fn := f, kind := .normal } : Frame).at a1 todo with mode := modeOf p2 } (csOf none recd cs) rfl rfl rfl rfl
        have hcs : csOf none recd cs = cs := by cases recd <;> rfl
        rw [hcs] at hs k1
        exact ⟨fr2, hs.trans k1, k2, k4, k5, fn, hfn⟩
    have hnil : ∀ cs : List Frame, csOf p' false cs = cs := fun cs => rfl
    cases out with
    | norm =>
      have := o1.norm
      subst this
      refine fin none none (.inl ⟨rfl, rfl, rfl⟩) e2 fun kind cs hcs => ⟨[], ?_⟩
      rw [henter kind]
      have := r1 { (default : Frame) with fn := f, kind := kind } [] cs rfl hcs
      exact Steps.trans this (.one step_end)
    | ret =>
      cases ex <;> simp only [OutRel] at o1
      refine fin none none (.inl ⟨rfl, rfl, rfl⟩) e2 fun kind cs hcs => ?_
      rw [henter kind]
      exact r1 { (default : Frame) with fn := f, kind := kind } [] cs rfl hcs
    | panic v =>
      cases ex <;> simp only [OutRel] at o1
      obtain ⟨v', rfl, hv⟩ := o1
      refine fin (some v) (some v') (.inr (.inl ⟨v, v', rfl, rfl, rfl, hv⟩)) e2 fun kind cs hcs => ?_
      rw [henter kind]
      exact r1 { (default : Frame) with fn := f, kind := kind } [] cs rfl hcs
    | exit i => exact (M.fail_some (s := s1) e2).elim

theorem callOK_evF (pok : ProgOK P) (base lf : Nat) : ∀ d, CallOK P base (evF P lf d)
  | 0 => ⟨fun f args pan r s e => (M.fail_some (b := r.1) (s := s) (s' := r.2) e).elim, fun f args pan r s s' m w args' p' e => (M.fail_some (s := s) e).elim⟩
  | d + 1 => by
    refine ⟨fun f args pan r s e => ?_, fun f args pan r s s' m w args' p' e hf h hG ha hp => ?_⟩
    · simp only [evF] at e
      cases hfn : P.funcs[f]? with
      | none => rw [hfn] at e; exact (M.fail_some (b := r.1) (s := s) (s' := r.2) e).elim
      | some fn =>
        rw [hfn] at e
        simp only [enterF] at e
        cases hb : fn.body with
        | none => rw [hb] at e; exact (M.fail_some (b := r.1) (s := s) (s' := r.2) e).elim
        | some c => exact ⟨fn, c, rfl, hb, (pok.code f fn c hfn hb).1⟩
    · simp only [evF] at e
      cases hfn : P.funcs[f]? with
      | none => rw [hfn] at e; exact (M.fail_some (s := s) e).elim
      | some fn =>
        rw [hfn] at e
        exact sim_enter pok (callOK_evF pok base lf d) (Mono.evF P lf d) (Local.evF P lf d) lf hfn e hf h hG ha hp
end
end Go.Shade
