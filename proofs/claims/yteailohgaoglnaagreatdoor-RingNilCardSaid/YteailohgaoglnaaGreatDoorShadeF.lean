/- Locality of regions, code, calls. -/
import Derived.Test.YteailohgaoglnaaGreatDoorShadeE
namespace Go.Shade

def LocalCall (call : CallSem) : Prop := ∀ f args p, Local (call f args p)

theorem outer_eq (lim : Nat) : ∀ (δ log : List Acc), outer lim δ log = δ.filter (fun e => decide (e.b < lim)) ++ log
  | [], log => rfl
  | a :: l, log => by
    simp only [outer]
    by_cases h : a.b < lim
    · have h1 : Nat.blt a.b lim = true := by rw [Nat.blt_eq]; exact h
      simp [h1, h, outer_eq lim l log]
    · have h1 : Nat.blt a.b lim = false := by
        cases h1 : Nat.blt a.b lim with
        | true => rw [Nat.blt_eq] at h1; exact absurd h1 h
        | false => rfl
      simp [h1, h, outer_eq lim l log]

theorem Local.getN : Local getN := by
  intro n H lim log a n' H' lim' log' h hl
  simp only [Shade.getN, Option.some.injEq, Prod.mk.injEq, S.mk.injEq] at h
  obtain ⟨rfl, rfl, rfl, rfl, rfl⟩ := h
  refine ⟨rfl, [], rfl, Nat.le_refl _, by simp, fun H2 log2 _ h2 => ⟨H2, rfl, ?_, fun _ _ _ => rfl⟩⟩
  rintro b (⟨e, he, _⟩ | ⟨h3, h4⟩)
  · simp at he
  · exact h2 b h3 h4

theorem sub_some {α : Type} {x : M α} {n : Nat} {H : Tr AObj} {lim : Nat} {log : List Acc} {r : α × Rec} {s' : S} (h : sub x ⟨n, H, lim, log⟩ = some (r, s')) :
    ∃ a n' H' lim1 log', x ⟨n, H, n, []⟩ = some (a, ⟨n', H', lim1, log'⟩) ∧ r = (a, ⟨n, n', log'⟩) ∧ s' = ⟨n', H', lim, outer lim log' log⟩ := by
  simp only [sub] at h
  split at h
  · rename_i a n' H' lim1 log' hx
    simp only [Option.some.injEq, Prod.mk.injEq] at h
    exact ⟨a, n', H', lim1, log', hx, h.1.symm, h.2.symm⟩
  · cases h

theorem Local.sub {α : Type} {x : M α} (hx : Local x) : Local (sub x) := by
  intro n H lim log r n' H' lim' log' h hl
  obtain ⟨a, n1, H1, lim1, log1, h1, rfl, e⟩ := sub_some h
  simp only [S.mk.injEq] at e
  obtain ⟨rfl, rfl, rfl, rfl⟩ := e
  obtain ⟨e1, δ, e2, L⟩ := hx _ _ _ _ _ _ _ _ _ h1 (Nat.le_refl _)
  rw [List.append_nil] at e2
  subst e1 e2
  have F := L.frame (log := []) (by rw [h1, List.append_nil])
  refine ⟨rfl, _, outer_eq _ _ _, L.le, ?_, ?_⟩
  · intro e he; simpa using (List.mem_filter.1 he).2
  · intro H2 log2 hag hown
    obtain ⟨H2', e2, k1, k2⟩ := L.again H2 [] (fun e he => by
      by_cases hb : e.b < lim'
      · exact hag e (List.mem_filter.2 ⟨he, by simpa using hb⟩)
      · exact hown _ (by omega) (L.old e he)) (fun b h1 h2 => by omega)
    refine ⟨H2', by rw [Shade.sub, e2]; simp [outer_eq], ?_, ?_⟩
    · intro b hb
      by_cases hw : Wr log1 b
      · exact k1 b (.inl hw)
      · by_cases hn : lim1 ≤ b ∧ b < n'
        · exact k1 b (.inr hn)
        · rw [k2 b hw hn, F b hw hn]
          rcases hb with ⟨e, he, h3, h4⟩ | ⟨h3, h4⟩
          · exact absurd ⟨e, (List.mem_filter.1 he).1, h3, h4⟩ hw
          · exact hown b h3 (by omega)
    · intro b hb hno
      refine k2 b ?_ (fun h => hno ⟨by omega, h.2⟩)
      rintro ⟨e, he, h3, rfl⟩
      by_cases hl2 : e.b < lim'
      · exact hb ⟨e, List.mem_filter.2 ⟨he, by simpa using hl2⟩, h3, rfl⟩
      · exact hno ⟨by omega, Nat.lt_of_lt_of_le (L.old e he) L.le⟩

section
variable (P : Program) {call : CallSem}
theorem Local.normed (o : Option Fr) : Local (normed o) := by unfold Shade.normed; split <;> first | exact Local.ret _ | exact Local.fail
theorem Local.called (fr : Fr) (dst : Option Tmp) (r : COut) : Local (called fr dst r) := by
  cases r with
  | ret v _ => exact Local.normed _
  | panic v => exact Local.ret _
theorem Local.seen (fr : Fr) (dst : Option Tmp) : Local (seen fr dst) := by
  unfold Shade.seen; split <;> exact Local.normed _
theorem Local.after (hc : LocalCall call) (dst : Option Tmp) (fr : Fr) (r : Res) : Local (after call dst fr r) := by
  cases r with
  | val v => exact Local.normed _
  | enter f args => exact Local.bnd (hc _ _ _) fun r => Local.called _ _ _
  | panic v => exact Local.ret _
  | defer f args => exact Local.normed _
  | recover => exact Local.seen _ _
theorem Local.evOne (hc : LocalCall call) (ops : List Oper) (o : Oper) (fr : Fr) : Local (evOne P call ops o fr) := by
  unfold Shade.evOne; split
  · exact Local.normed _
  · exact Local.bnd (Local.evOp P _ _) fun r => Local.after hc _ _ _
theorem Local.evOps (hc : LocalCall call) (ops : List Oper) : ∀ l fr, Local (evOps P call ops l fr)
  | [], _ => Local.ret _
  | o :: l, fr => Local.bnd (Local.evOne P hc ops o fr) fun r => by
    obtain ⟨out, fr⟩ := r
    cases out <;> first | exact Local.evOps hc ops l fr | exact Local.ret _
theorem Local.valOf (hc : LocalCall call) (r : Res) : Local (valOf call r) := by
  cases r <;> first | exact Local.ret _ | exact Local.fail | skip
  exact Local.bnd (hc _ _ _) fun r => by cases r <;> first | exact Local.ret _ | exact Local.fail
theorem Local.evVal (hc : LocalCall call) (ops : List Oper) (o : Oper) (fr : Fr) : Local (evVal P call ops o fr) := by
  unfold Shade.evVal; split
  · exact Local.ret _
  · exact Local.bnd (Local.evOp P _ _) fun r => Local.valOf hc r
theorem Local.evDraw (hc : LocalCall call) (ops : List Oper) : ∀ l fr recs, Local (evDraw P call ops l fr recs)
  | [], _, _ => Local.ret _
  | o :: l, fr, recs => Local.bnd (Local.sub (Local.evVal P hc ops o fr)) fun r => Local.bnd (Local.opt _) fun fr => Local.evDraw hc ops l fr (r.2 :: recs)
theorem Local.evRegion (hc : LocalCall call) (ops : List Oper) (draw : Bool) (fr : Fr) : Local (evRegion P call ops draw fr) := by
  cases draw with
  | false => exact Local.evOps P hc ops ops fr
  | true =>
    simp only [Shade.evRegion]
    refine Local.bnd Local.getN fun n0 => ?_
    refine Local.bnd (Local.evDraw P hc ops ops fr []) fun r => ?_
    unfold evDrawn
    split <;> first | exact Local.ret _ | exact Local.fail
theorem Local.evLoop {body : Fr → M Ran} (hb : ∀ fr, Local (body fr)) : ∀ k fr, Local (evLoop body k fr)
  | 0, _ => Local.fail
  | k + 1, fr => Local.bnd (hb fr) fun r => by
    obtain ⟨out, fr⟩ := r
    cases out <;> first | exact Local.evLoop hb k fr | exact Local.ret _
theorem Local.unblock (id : Nat) (r : Ran) : Local (unblock id r) := by
  obtain ⟨out, fr⟩ := r
  cases out <;> simp only [Shade.unblock] <;> (try exact Local.ret _)
  split <;> exact Local.ret _
theorem Local.evC (hc : LocalCall call) (lf : Nat) : ∀ c fr, Local (evC P call lf c fr) := by
  intro c
  induction c with
  | skip => exact fun _ => Local.ret _
  | label => exact fun _ => Local.ret _
  | region id ops draw => exact fun fr => Local.evRegion P hc _ _ fr
  | seq a b iha ihb =>
    refine fun fr => Local.bnd (iha fr) fun r => ?_
    obtain ⟨out, fr⟩ := r
    cases out <;> first | exact ihb fr | exact Local.ret _
  | cond c a b iha ihb =>
    intro fr
    simp only [Shade.evC]
    split <;> first | exact iha fr | exact ihb fr | exact Local.fail
  | block id body ih => exact fun fr => Local.bnd (ih fr) fun r => Local.unblock id r
  | loop body ih => exact fun fr => Local.evLoop ih lf fr
  | scope body ih => exact ih
  | exit id => exact fun _ => Local.ret _
  | ret => exact fun _ => Local.ret _
  | goto => exact fun _ => Local.fail
  | rangeFunc => exact fun _ => Local.fail
  | refuse => exact fun _ => Local.fail
theorem Local.evResults (T : Tr Value) : ∀ l, Local (evResults P T l)
  | [] => Local.ret _
  | .tmp t :: l => Local.bnd (Local.evResults T l) fun _ => Local.ret _
  | .cell a t :: l => by
    simp only [Shade.evResults]
    split
    · exact Local.bnd (Local.loadV P _ _ _) fun _ => Local.bnd (Local.evResults T l) fun _ => Local.ret _
    · exact Local.fail
theorem Local.evUnwind (hc : LocalCall call) (res : List ResultVar) (T : Tr Value) (recd : Bool) : ∀ ds p, Local (evUnwind P call res T recd ds p)
  | [], none => Local.bnd (Local.evResults P T res) fun _ => Local.ret _
  | [], some _ => Local.ret _
  | (f, args) :: ds, p => Local.bnd (hc f args p) fun r => by
    cases r with
    | ret v b => cases b <;> exact Local.evUnwind hc res T recd ds _
    | panic v => exact Local.fail
theorem Local.leave (hc : LocalCall call) (res : List ResultVar) (r : Ran) : Local (leave P call res r) := by
  obtain ⟨out, fr⟩ := r
  obtain ⟨T, nt, defs, pan, recd⟩ := fr
  cases out <;> first | exact Local.evUnwind P hc _ _ _ _ _ | exact Local.fail
theorem Local.evF (lf : Nat) : ∀ d, LocalCall (evF P lf d)
  | 0 => fun _ _ _ => Local.fail
  | d + 1 => fun f args p => by
    simp only [Shade.evF]
    split
    · unfold enterF
      split
      · exact Local.bnd (Local.evC P (Local.evF lf d) lf _ _) fun r => Local.leave P (Local.evF lf d) _ r
      · exact Local.fail
    · exact Local.fail
end
end Go.Shade
