/- Locality: what a piece of the evaluator does hangs on the objects that its log names, and on its own. -/
import Derived.Test.YteailohgaoglnaaGreatDoorShadeD
namespace Go.Shade

/-- The accesses write the object b. -/
def Wr (δ : List Acc) (b : Nat) : Prop := ∃ e ∈ δ, e.wr = true ∧ e.b = b

structure Loc1 {α : Type} (x : M α) (n : Nat) (H : Tr AObj) (lim : Nat) (a : α) (n' : Nat) (H' : Tr AObj) (δ : List Acc) : Prop where
  le : n ≤ n'
  old : ∀ e ∈ δ, e.b < lim
  again : ∀ H2 log2, (∀ e ∈ δ, H2.get e.b = H.get e.b) → (∀ b, lim ≤ b → b < n → H2.get b = H.get b) →
    ∃ H2', x ⟨n, H2, lim, log2⟩ = some (a, ⟨n', H2', lim, δ ++ log2⟩) ∧
      (∀ b, (Wr δ b ∨ (lim ≤ b ∧ b < n')) → H2'.get b = H'.get b) ∧
      (∀ b, ¬ Wr δ b → ¬ (lim ≤ b ∧ b < n') → H2'.get b = H2.get b)

def Local {α : Type} (x : M α) : Prop :=
  ∀ n H lim log a n' H' lim' log', x ⟨n, H, lim, log⟩ = some (a, ⟨n', H', lim', log'⟩) → lim ≤ n →
    lim' = lim ∧ ∃ δ, log' = δ ++ log ∧ Loc1 x n H lim a n' H' δ

theorem Loc1.frame {α : Type} {x : M α} {n : Nat} {H : Tr AObj} {lim : Nat} {a : α} {n' : Nat} {H' : Tr AObj} {δ : List Acc} {log : List Acc}
    (h : Loc1 x n H lim a n' H' δ) (hx : x ⟨n, H, lim, log⟩ = some (a, ⟨n', H', lim, δ ++ log⟩)) :
    ∀ b, ¬ Wr δ b → ¬ (lim ≤ b ∧ b < n') → H'.get b = H.get b := by
  obtain ⟨H2', e, _, hf⟩ := h.again H log (fun _ _ => rfl) (fun _ _ _ => rfl)
  rw [hx] at e
  simp only [Option.some.injEq, Prod.mk.injEq, S.mk.injEq, true_and] at e
  obtain ⟨rfl, _⟩ := e
  exact hf

section
variable {α β : Type}

theorem Local.ret (a : α) : Local (M.ret a) := by
  intro n H lim log a1 n' H' lim' log' h hl
  simp only [M.ret, Option.some.injEq, Prod.mk.injEq, S.mk.injEq] at h
  obtain ⟨rfl, rfl, rfl, rfl, rfl⟩ := h
  refine ⟨rfl, [], rfl, Nat.le_refl _, by simp, fun H2 log2 _ h2 => ⟨H2, rfl, ?_, fun _ _ _ => rfl⟩⟩
  rintro b (⟨e, he, _⟩ | ⟨h3, h4⟩)
  · simp at he
  · exact h2 b h3 h4

theorem Local.fail : Local (M.fail : M α) := by
  intro n H lim log a1 n' H' lim' log' h
  simp [M.fail] at h

theorem Local.opt (o : Option α) : Local (M.opt o) := by
  cases o with
  | none => exact fun _ _ _ _ _ _ _ _ _ h => by simp [M.opt] at h
  | some a => exact Local.ret a

theorem Wr_append (δ ε : List Acc) (b : Nat) : Wr (δ ++ ε) b ↔ Wr δ b ∨ Wr ε b := by
  unfold Wr
  constructor
  · rintro ⟨e, he, h⟩
    rcases List.mem_append.1 he with h1 | h1
    · exact .inl ⟨e, h1, h⟩
    · exact .inr ⟨e, h1, h⟩
  · rintro (⟨e, he, h⟩ | ⟨e, he, h⟩)
    · exact ⟨e, List.mem_append_left _ he, h⟩
    · exact ⟨e, List.mem_append_right _ he, h⟩

theorem Local.bnd {x : M α} {f : α → M β} (hx : Local x) (hf : ∀ a, Local (f a)) : Local (M.bnd x f) := by
  intro n H lim log c n' H' lim' log' h hl
  obtain ⟨a, ⟨n1, H1, lim1, log1⟩, h1, h2⟩ := M.bnd_some h
  obtain ⟨e1, δ1, rfl, L1⟩ := hx _ _ _ _ _ _ _ _ _ h1 hl
  have e1' := e1.symm
  subst e1'
  obtain ⟨e2, δ2, rfl, L2⟩ := hf a _ _ _ _ _ _ _ _ _ h2 (Nat.le_trans hl L1.le)
  have e2' := e2.symm
  subst e2'
  have F1 := L1.frame h1
  refine ⟨rfl, δ2 ++ δ1, by simp, Nat.le_trans L1.le L2.le, ?_, ?_⟩
  · intro e he
    rcases List.mem_append.1 he with h | h
    · exact L2.old e h
    · exact L1.old e h
  · intro H2 log2 hag hown
    obtain ⟨K1, e1, k1, k2⟩ := L1.again H2 log2 (fun e he => hag e (List.mem_append_right _ he)) hown
    have hag2 : ∀ e ∈ δ2, K1.get e.b = H1.get e.b := by
      intro e he
      by_cases hw : Wr δ1 e.b
      · exact k1 _ (.inl hw)
      · have hb : ¬ (lim ≤ e.b ∧ e.b < n1) := fun h => by have := L2.old e he; omega
        rw [k2 _ hw hb, F1 _ hw hb]
        exact hag e (List.mem_append_left _ he)
    have hown2 : ∀ b, lim ≤ b → b < n1 → K1.get b = H1.get b := fun b hb1 hb2 => k1 b (.inr ⟨hb1, hb2⟩)
    obtain ⟨K2, e2, k3, k4⟩ := L2.again K1 (δ1 ++ log2) hag2 hown2
    refine ⟨K2, ?_, ?_, ?_⟩
    · rw [M.bnd_eq e1, e2, List.append_assoc]
    · intro b hb
      by_cases h3 : Wr δ2 b ∨ (lim ≤ b ∧ b < n')
      · exact k3 b h3
      · have hnw : ¬ Wr δ2 b := fun h => h3 (.inl h)
        have hno : ¬ (lim ≤ b ∧ b < n') := fun h => h3 (.inr h)
        have F2 := L2.frame h2
        rw [k4 b hnw hno, F2 b hnw hno]
        rcases hb with hb | hb
        · rw [Wr_append] at hb
          rcases hb with hb | hb
          · exact absurd hb hnw
          · exact k1 b (.inl hb)
        · exact absurd hb hno
    · intro b hb hno
      rw [Wr_append] at hb
      have h3 : ¬ Wr δ2 b := fun h => hb (.inl h)
      have h4 : ¬ Wr δ1 b := fun h => hb (.inr h)
      rw [k4 b h3 hno, k2 b h4 (fun h => hno ⟨h.1, Nat.lt_of_lt_of_le h.2 L2.le⟩)]

theorem note_eq (b lim : Nat) (log : List Acc) (wr : Bool) : note b lim log wr = (if b < lim then [⟨wr, b⟩] else []) ++ log := by
  unfold note
  by_cases h : b < lim
  · have : Nat.blt b lim = true := by rw [Nat.blt_eq]; exact h
    simp [this, h]
  · have : Nat.blt b lim = false := by
      cases h1 : Nat.blt b lim with
      | true => rw [Nat.blt_eq] at h1; exact absurd h1 h
      | false => rfl
    simp [this, h]

theorem touch_lt {b : Nat} {f : AObj → Option (α × Option AObj)} {n : Nat} {H : Tr AObj} {lim : Nat} {log : List Acc} {r : α × S}
    (h : touch b f ⟨n, H, lim, log⟩ = some r) : b < n := by
  simp only [touch] at h
  cases hb : Nat.blt b n with
  | true => rw [Nat.blt_eq] at hb; exact hb
  | false => rw [hb] at h; cases h

theorem touch_some {b : Nat} {f : AObj → Option (α × Option AObj)} {n : Nat} {H : Tr AObj} {lim : Nat} {log : List Acc} {a : α} {s' : S}
    (h : touch b f ⟨n, H, lim, log⟩ = some (a, s')) : ∃ x, H.get b = some x ∧
      ((f x = some (a, none) ∧ s' = ⟨n, H, lim, note b lim log false⟩) ∨ ∃ y, f x = some (a, some y) ∧ s' = ⟨n, H.set b y, lim, note b lim log true⟩) := by
  have hb : Nat.blt b n = true := by rw [Nat.blt_eq]; exact touch_lt h
  simp only [touch, hb] at h
  cases hg : H.get b with
  | none => simp [hg] at h
  | some x =>
    simp only [hg] at h
    refine ⟨x, rfl, ?_⟩
    split at h
    · rename_i c hc
      simp only [Option.some.injEq, Prod.mk.injEq] at h
      obtain ⟨rfl, rfl⟩ := h
      exact .inl ⟨hc, rfl⟩
    · rename_i c y hc
      simp only [Option.some.injEq, Prod.mk.injEq] at h
      obtain ⟨rfl, rfl⟩ := h
      exact .inr ⟨y, hc, rfl⟩
    · cases h

theorem touch_rd {b : Nat} {f : AObj → Option (α × Option AObj)} {n : Nat} {H : Tr AObj} {lim : Nat} {log : List Acc} {a : α} {x : AObj}
    (hb : b < n) (hg : H.get b = some x) (hf : f x = some (a, none)) : touch b f ⟨n, H, lim, log⟩ = some (a, ⟨n, H, lim, note b lim log false⟩) := by
  have hb : Nat.blt b n = true := by rw [Nat.blt_eq]; exact hb
  simp [touch, hg, hf, hb]
theorem touch_wr {b : Nat} {f : AObj → Option (α × Option AObj)} {n : Nat} {H : Tr AObj} {lim : Nat} {log : List Acc} {a : α} {x y : AObj}
    (hb : b < n) (hg : H.get b = some x) (hf : f x = some (a, some y)) : touch b f ⟨n, H, lim, log⟩ = some (a, ⟨n, H.set b y, lim, note b lim log true⟩) := by
  have hb : Nat.blt b n = true := by rw [Nat.blt_eq]; exact hb
  simp [touch, hg, hf, hb]

theorem Local.touch (b : Nat) (f : AObj → Option (α × Option AObj)) : Local (touch b f) := by
  intro n H lim log a n' H' lim' log' h hl
  obtain ⟨x, hg, hh⟩ := touch_some h
  have hbn : b < n := touch_lt h
  rcases hh with ⟨hf, e⟩ | ⟨y, hf, e⟩
  · simp only [S.mk.injEq] at e
    obtain ⟨rfl, rfl, rfl, rfl⟩ := e
    refine ⟨rfl, _, note_eq _ _ _ _, Nat.le_refl _, ?_, ?_⟩
    · intro e he; split at he
      · simp at he; rw [he]; assumption
      · simp at he
    · intro H2 log2 hag hown
      have hg2 : H2.get b = some x := by
        by_cases hb : b < lim'
        · rw [hag ⟨false, b⟩ (by simp [hb]), hg]
        · rw [hown b (by omega) hbn, hg]
      refine ⟨H2, by rw [touch_rd hbn hg2 hf, note_eq], ?_, fun _ _ _ => rfl⟩
      rintro c (⟨e, he, hw, rfl⟩ | ⟨h3, h4⟩)
      · split at he <;> simp at he; subst he; simp at hw
      · exact hown c h3 h4
  · simp only [S.mk.injEq] at e
    obtain ⟨rfl, rfl, rfl, rfl⟩ := e
    refine ⟨rfl, _, note_eq _ _ _ _, Nat.le_refl _, ?_, ?_⟩
    · intro e he; split at he
      · simp at he; rw [he]; assumption
      · simp at he
    · intro H2 log2 hag hown
      have hg2 : H2.get b = some x := by
        by_cases hb : b < lim'
        · rw [hag ⟨true, b⟩ (by simp [hb]), hg]
        · rw [hown b (by omega) hbn, hg]
      refine ⟨H2.set b y, by rw [touch_wr hbn hg2 hf, note_eq], ?_, ?_⟩
      · intro c hc
        by_cases hcb : c = b
        · subst hcb; rw [Tr.get_set_eq, Tr.get_set_eq]
        · rw [Tr.get_set_ne _ _ hcb, Tr.get_set_ne _ _ hcb]
          rcases hc with ⟨e, he, hw, rfl⟩ | ⟨h3, h4⟩
          · split at he <;> simp at he; subst he; exact absurd rfl hcb
          · exact hown c h3 h4
      · intro c hc hno
        by_cases hcb : c = b
        · subst hcb
          by_cases hb : c < lim'
          · exact absurd ⟨⟨true, c⟩, by simp [hb], rfl, rfl⟩ hc
          · exact absurd ⟨by omega, hbn⟩ hno
        · rw [Tr.get_set_ne _ _ hcb]

theorem Local.newObj (o : AObj) : Local (newObj o) := by
  intro n H lim log a n' H' lim' log' h hl
  simp only [Shade.newObj, force_eq, Option.some.injEq, Prod.mk.injEq, S.mk.injEq] at h
  obtain ⟨rfl, rfl, rfl, rfl, rfl⟩ := h
  refine ⟨rfl, [], rfl, by omega, by simp, ?_⟩
  · intro H2 log2 hag hown
    refine ⟨H2.set n o, by simp [Shade.newObj, force_eq], ?_, ?_⟩
    · rintro b (⟨e, he, _⟩ | ⟨h3, h4⟩)
      · simp at he
      · by_cases hb : b = n
        · subst hb; rw [Tr.get_set_eq, Tr.get_set_eq]
        · rw [Tr.get_set_ne _ _ hb, Tr.get_set_ne _ _ hb]; exact hown b h3 (by omega)
    · intro b hb hno
      rw [Tr.get_set_ne _ _ (by intro e; subst e; exact hno ⟨hl, by omega⟩)]

theorem Local.force {k : Nat → M α} (n : Nat) (h : ∀ n, Local (k n)) : Local (force n k) := by rw [force_eq]; exact h n
theorem Local.kill : ∀ l, Local (kill l)
  | [] => Local.ret _
  | _ :: l => Local.bnd (Local.touch _ _) fun _ => Local.kill l
end

theorem Local.rdRow (b lo cnt : Nat) : Local (rdRow b lo cnt) := Local.touch _ _
theorem Local.rdCell (b i : Nat) : Local (rdCell b i) := Local.touch _ _
theorem Local.wrRow (b lo : Nat) (vs : List Value) : Local (wrRow b lo vs) := by
  refine Local.bnd (Local.touch _ _) fun old => ?_
  cases old with
  | nil => exact Local.ret _
  | cons o l => exact Local.bnd (Local.kill _) fun _ => Local.bnd (Local.touch _ _) fun _ => Local.ret _
theorem Local.newRow (cs : List Value) (old : List Nat) (esz : Nat) : Local (newRow cs old esz) := by
  unfold Shade.newRow; split
  · exact Local.newObj _
  · exact Local.fail

section
variable (P : Program)
theorem Local.loadV (t : TypeId) (b i : Nat) : Local (loadV P t b i) := by
  unfold Shade.loadV
  repeat' split
  all_goals first | exact Local.fail | exact Local.rdCell _ _ | exact Local.bnd (Local.rdRow _ _ _) fun _ => Local.ret _
theorem Local.storeV (t : TypeId) (b i : Nat) (v : Value) : Local (storeV P t b i v) := by
  unfold Shade.storeV
  repeat' split
  all_goals first | exact Local.fail | exact Local.wrRow _ _ _
theorem Local.rdSlice (k : Nat) (x : Value) (n : Nat) : Local (rdSlice k x n) := by
  unfold Shade.rdSlice
  repeat' split
  all_goals first | exact Local.fail | exact Local.rdRow _ _ _ | exact Local.ret _
theorem Local.grown (cs : List Value) (len k : Nat) (old : List Nat) : Local (grown cs len k old) := by
  unfold Shade.grown; split <;> first | exact Local.fail | exact Local.bnd (Local.newRow _ _ _) fun _ => Local.ret _
theorem Local.ownRow (b : Nat) : Local (ownRow b) := Local.touch _ _
theorem Local.retire (k b upto : Nat) : Local (retire k b upto) := Local.touch _ _
theorem Local.getMap (r : Nat) : Local (getMap r) := Local.touch _ _
theorem Local.setMap (r : Nat) (es : List (Value × Value)) : Local (setMap r es) := Local.touch _ _
theorem Local.convStr (dst : TypeId) (s : ByteArray) : Local (convStr P dst s) := by
  unfold Shade.convStr
  repeat' split
  all_goals first | exact Local.fail | exact Local.ret _ | exact Local.grown _ _ _ _
theorem Local.convSlice (src dst : TypeId) (a : Option Addr) (n c : Nat) : Local (convSlice P src dst a n c) := by
  unfold Shade.convSlice Shade.convRow
  repeat' split
  all_goals first | exact Local.fail | exact Local.bnd (Local.rdSlice _ _ _) fun _ => Local.opt _ | exact Local.bnd (Local.ownRow _) fun _ => Local.ret _
theorem Local.convV (src dst : TypeId) (x : Value) : Local (convV P src dst x) := by
  unfold Shade.convV
  repeat' split
  all_goals first | exact Local.fail | exact Local.opt _ | exact Local.convStr P _ _ | exact Local.convSlice P _ _ _ _ _
theorem Local.appIn (k : Nat) (a : Option Addr) (sLen n code : Nat) (new : List Value) : Local (appIn k a sLen n code new) := by
  unfold Shade.appIn
  repeat' split
  all_goals first | exact Local.fail | exact Local.ret _ | exact Local.bnd (Local.wrRow _ _ _) fun _ => Local.ret _
theorem Local.appOut (k : Nat) (a : Option Addr) (sLen code n : Nat) (ex : Bool) (new old : List Value) : Local (appOut k a sLen code n ex new old) := by
  unfold Shade.appOut
  repeat' split
  all_goals first | exact Local.fail | exact Local.grown _ _ _ _ | exact Local.bnd (Local.retire _ _ _) fun _ => Local.grown _ _ _ _
theorem Local.appRow (k bytes : Nat) (a : Option Addr) (sLen code n : Nat) (new : List Value) : Local (appRow k bytes a sLen code n new) := by
  unfold Shade.appRow
  repeat' split
  all_goals first | exact Local.fail | exact Local.appIn _ _ _ _ _ _ | exact Local.bnd (Local.rdSlice _ _ _) fun _ => Local.appOut _ _ _ _ _ _ _ _
theorem Local.appendV (t : TypeId) (s x : Value) : Local (appendV P t s x) := by
  unfold Shade.appendV
  repeat' split
  all_goals first | exact Local.fail | exact Local.bnd (Local.rdSlice _ _ _) fun _ => Local.appRow _ _ _ _ _ _ _
theorem Local.copyRow (a : Option Addr) (n : Nat) (cs : List Value) : Local (copyRow a n cs) := by
  unfold Shade.copyRow
  repeat' split
  all_goals first | exact Local.fail | exact Local.opt _ | exact Local.bnd (Local.wrRow _ _ _) fun _ => Local.opt _
theorem Local.copyV (t : TypeId) (d x : Value) : Local (copyV P t d x) := by
  unfold Shade.copyV
  repeat' split
  all_goals first | exact Local.fail | exact Local.bnd (Local.rdSlice _ _ _) fun _ => Local.copyRow _ _ _
theorem Local.builtinV (b : Builtin) (ts : List TypeId) (args : List Value) : Local (builtinV P b ts args) := by
  unfold Shade.builtinV Shade.appB Shade.lenB Shade.clearB
  repeat' split
  all_goals first | exact Local.fail | exact Local.ret _ | exact Local.opt _ | exact Local.appendV P _ _ _ | exact Local.copyV P _ _ _ | exact Local.bnd (Local.getMap _) fun _ => Local.opt _ | exact Local.bnd (Local.setMap _ _) fun _ => Local.ret _ | exact Local.bnd (Local.wrRow _ _ _) fun _ => Local.ret _
theorem Local.asVal {x : M Value} (h : Local x) : Local (asVal x) := Local.bnd h fun _ => Local.ret _
theorem Local.ptrTo {x : M Nat} (h : Local x) : Local (ptrTo x) := Local.bnd h fun _ => Local.ret _
theorem Local.optVal (o : Option Value) : Local (optVal o) := by unfold Shade.optVal; split <;> first | exact Local.ret _ | exact Local.fail
theorem Local.aggOf (o : Option (List Value)) : Local (aggOf o) := by unfold Shade.aggOf; split <;> first | exact Local.ret _ | exact Local.fail
theorem Local.found (et : TypeId) (ok : Bool) (r : Option (Nat × Value)) : Local (found P et ok r) := by
  unfold Shade.found; repeat' split
  all_goals first | exact Local.ret _ | exact Local.fail
theorem Local.lookIn (kt et : TypeId) (k : Value) (ok : Bool) (es : List (Value × Value)) : Local (lookIn P kt et k ok es) := by
  unfold Shade.lookIn; repeat' split
  all_goals first | exact Local.found P _ _ _ | exact Local.fail
theorem Local.storeIn (kt : TypeId) (r : Nat) (k x : Value) (es : List (Value × Value)) : Local (storeIn P kt r k x es) := by
  unfold Shade.storeIn; repeat' split
  all_goals first | exact Local.fail | exact Local.bnd (Local.setMap _ _) fun _ => Local.ret _
theorem Local.notThat (t : TypeId) (ok : Bool) : Local (notThat P t ok) := by
  unfold Shade.notThat; repeat' split
  all_goals first | exact Local.ret _ | exact Local.fail
theorem Local.entered (o : Option (FuncId × List Value)) : Local (entered o) := by unfold Shade.entered; repeat' split <;> first | exact Local.ret _ | exact Local.fail
theorem Local.deferred (o : Option (FuncId × List Value)) : Local (deferred o) := by unfold Shade.deferred; repeat' split <;> first | exact Local.ret _ | exact Local.fail
theorem Local.opPanic (x : Value) : Local (opPanic x) := by unfold Shade.opPanic; split <;> first | exact Local.ret _ | exact Local.fail

theorem Local.evOp (ρ : Operand → Value) (op : Op) : Local (evOp P ρ op) := by
  cases op <;> simp only [Shade.evOp] <;> (try exact Local.fail) <;> (try exact Local.ret _) <;> (try exact Local.optVal _) <;> (try exact Local.opPanic _)
  case pick => unfold opPick; split <;> first | exact Local.ret _ | exact Local.fail
  case alloc => unfold opAlloc; split <;> first | exact Local.ptrTo (Local.newRow _ _ _) | exact Local.fail
  case box => exact Local.ptrTo (Local.newRow _ _ _)
  case build => unfold opBuild; repeat' split
                all_goals first | exact Local.aggOf _ | exact Local.fail
  case buildSlice => unfold opBuildSlice; repeat' split
                     all_goals first | exact Local.fail | exact Local.bnd (Local.newRow _ _ _) fun _ => Local.ret _
  case load => unfold opLoad; split <;> first | exact Local.fail | exact Local.asVal (Local.loadV P _ _ _)
  case store => unfold opStore; split <;> first | exact Local.fail | exact Local.bnd (Local.storeV P _ _ _ _) fun _ => Local.ret _
  case nilCheck => unfold opNilCheck; split <;> first | exact Local.ret _ | exact Local.fail
  case convert => exact Local.asVal (Local.convV P _ _ _)
  case makeInterface => unfold opIface; split <;> first | exact Local.ret _ | exact Local.fail
  case makeSlice => unfold opMakeSlice; repeat' split
                    all_goals first | exact Local.fail | exact Local.bnd (Local.newRow _ _ _) fun _ => Local.ret _
  case makeMap t r => cases r with
    | none => exact Local.bnd (Local.newObj _) fun _ => Local.ret _
    | some _ => exact Local.fail
  case slice => unfold opSlice; split <;> first | exact Local.optVal _ | exact Local.fail
  case fieldAddr => unfold opFieldAddr; repeat' split
                    all_goals first | exact Local.fail | exact Local.force _ fun _ => Local.ret _
  case field => unfold opField; repeat' split
                all_goals first | exact Local.fail | exact Local.optVal _
  case indexAddr => unfold opIndexAddr ptrAt; repeat' split
                    all_goals first | exact Local.fail | exact Local.force _ fun _ => Local.ret _
  case index => unfold opIndex; repeat' split
                all_goals first | exact Local.fail | exact Local.ret _ | exact Local.optVal _
  case lookup => unfold opLookup; repeat' split
                 all_goals first | exact Local.fail | exact Local.lookIn P _ _ _ _ _ | exact Local.bnd (Local.getMap _) fun _ => Local.lookIn P _ _ _ _ _
  case mapUpdate => unfold opMapUpdate; repeat' split
                    all_goals first | exact Local.fail | exact Local.bnd (Local.getMap _) fun _ => Local.storeIn P _ _ _ _ _
  case range => unfold opRange; repeat' split
                all_goals first | exact Local.fail | exact Local.ptrTo (Local.newObj _)
  case next => unfold opNext nextAt; repeat' split
               all_goals first | exact Local.fail | exact Local.touch _ _
  case typeAssert => unfold opAssert assertTo; repeat' split
                     all_goals first | exact Local.fail | exact Local.ret _ | exact Local.notThat P _ _
  case extract => unfold opExtract; split <;> first | exact Local.fail | exact Local.optVal _
  case call c =>
    unfold opCall; split
    · exact Local.entered _
    · unfold opBuiltin; split <;> first | exact Local.ret _ | exact Local.opPanic _ | exact Local.asVal (Local.builtinV P _ _ _)
    · exact Local.fail
  case defer c =>
    unfold opDefer; split
    · exact Local.deferred _
    · exact Local.fail
end
end Go.Shade
