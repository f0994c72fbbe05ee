/- The evaluator's trees and lists: what is read is what was written. -/
import Derived.Test.YteailohgaoglnaaGreatDoorShadeC
namespace Go.Shade

theorem Tr.getF_of_lt {α : Type} : ∀ (f g k : Nat) (t : Tr α), k < f → k < g → Tr.getF f t k = Tr.getF g t k
  | 0, _, _, _, h, _ => absurd h (Nat.not_lt_zero _)
  | _ + 1, 0, _, _, _, h => absurd h (Nat.not_lt_zero _)
  | f + 1, g + 1, k, .nil, _, _ => rfl
  | f + 1, g + 1, k, .node l v r, hf, hg => by
    simp only [Tr.getF]
    cases h0 : Nat.beq k 0 with
    | true => rfl
    | false =>
      have hk : k ≠ 0 := fun e => by subst e; simp at h0
      cases h1 : Nat.beq (k % 2) 1 with
      | true => exact Tr.getF_of_lt f g (k / 2) l (by omega) (by omega)
      | false => exact Tr.getF_of_lt f g (k / 2 - 1) r (by omega) (by omega)

theorem Tr.getF_setF_eq {α : Type} : ∀ (f k : Nat) (t : Tr α) (x : α), k < f → Tr.getF f (Tr.setF f t k x) k = some x
  | 0, _, _, _, h => absurd h (Nat.not_lt_zero _)
  | f + 1, k, .nil, x, hf => by
    simp only [Tr.setF]
    cases h0 : Nat.beq k 0 with
    | true => simp [Tr.getF, h0]
    | false =>
      have hk : k ≠ 0 := fun e => by subst e; simp at h0
      cases h1 : Nat.beq (k % 2) 1 with
      | true => simp only [Tr.getF, h0, h1]; exact Tr.getF_setF_eq f (k / 2) _ x (by omega)
      | false => simp only [Tr.getF, h0, h1]; exact Tr.getF_setF_eq f (k / 2 - 1) _ x (by omega)
  | f + 1, k, .node l v r, x, hf => by
    simp only [Tr.setF]
    cases h0 : Nat.beq k 0 with
    | true => simp [Tr.getF, h0]
    | false =>
      have hk : k ≠ 0 := fun e => by subst e; simp at h0
      cases h1 : Nat.beq (k % 2) 1 with
      | true => simp only [Tr.getF, h0, h1]; exact Tr.getF_setF_eq f (k / 2) _ x (by omega)
      | false => simp only [Tr.getF, h0, h1]; exact Tr.getF_setF_eq f (k / 2 - 1) _ x (by omega)

theorem Tr.getF_nil {α : Type} (f k : Nat) : Tr.getF f (.nil : Tr α) k = none := by cases f <;> rfl

theorem Tr.getF_setF_ne {α : Type} : ∀ (f g k j : Nat) (t : Tr α) (x : α), k < g → j < f → j ≠ k → Tr.getF f (Tr.setF g t k x) j = Tr.getF f t j
  | 0, _, _, _, _, _, _, h, _ => absurd h (Nat.not_lt_zero _)
  | _ + 1, 0, _, _, _, _, h, _, _ => absurd h (Nat.not_lt_zero _)
  | f + 1, g + 1, k, j, .nil, x, hk, hj, hne => by
    simp only [Tr.setF]
    cases h0 : Nat.beq k 0 with
    | true =>
      have hk0 : k = 0 := Nat.eq_of_beq_eq_true h0
      have hj0 : Nat.beq j 0 = false := by cases h : Nat.beq j 0 with | true => exact absurd (Nat.eq_of_beq_eq_true h) (by omega) | false => rfl
      cases h1 : Nat.beq (j % 2) 1 <;> simp [Tr.getF, hj0, h1, Tr.getF_nil]
    | false =>
      have hk0 : k ≠ 0 := fun e => by subst e; simp at h0
      cases h1 : Nat.beq (k % 2) 1 with
      | true =>
        have hk1 := Nat.eq_of_beq_eq_true h1
        simp only [Tr.getF]
        cases hj0 : Nat.beq j 0 with
        | true => rfl
        | false =>
          have hjn : j ≠ 0 := fun e => by subst e; simp at hj0
          cases hj1 : Nat.beq (j % 2) 1 with
          | true =>
            have := Nat.eq_of_beq_eq_true hj1
            simp only []
            rw [Tr.getF_setF_ne f g (k / 2) (j / 2) .nil x (by omega) (by omega) (by omega), Tr.getF_nil]
          | false => simp [Tr.getF_nil]
      | false =>
        have hk1 : k % 2 ≠ 1 := fun e => by rw [e] at h1; simp at h1
        simp only [Tr.getF]
        cases hj0 : Nat.beq j 0 with
        | true => rfl
        | false =>
          have hjn : j ≠ 0 := fun e => by subst e; simp at hj0
          cases hj1 : Nat.beq (j % 2) 1 with
          | true => simp [Tr.getF_nil]
          | false =>
            have hj2 : j % 2 ≠ 1 := fun e => by rw [e] at hj1; simp at hj1
            simp only []
            rw [Tr.getF_setF_ne f g (k / 2 - 1) (j / 2 - 1) .nil x (by omega) (by omega) (by omega), Tr.getF_nil]
  | f + 1, g + 1, k, j, .node l v r, x, hk, hj, hne => by
    simp only [Tr.setF]
    cases h0 : Nat.beq k 0 with
    | true =>
      have hk0 : k = 0 := Nat.eq_of_beq_eq_true h0
      have hj0 : Nat.beq j 0 = false := by cases h : Nat.beq j 0 with | true => exact absurd (Nat.eq_of_beq_eq_true h) (by omega) | false => rfl
      simp [Tr.getF, hj0]
    | false =>
      have hk0 : k ≠ 0 := fun e => by subst e; simp at h0
      cases h1 : Nat.beq (k % 2) 1 with
      | true =>
        have hk1 := Nat.eq_of_beq_eq_true h1
        simp only [Tr.getF]
        cases hj0 : Nat.beq j 0 with
        | true => rfl
        | false =>
          have hjn : j ≠ 0 := fun e => by subst e; simp at hj0
          cases hj1 : Nat.beq (j % 2) 1 with
          | true =>
            have := Nat.eq_of_beq_eq_true hj1
            exact Tr.getF_setF_ne f g (k / 2) (j / 2) l x (by omega) (by omega) (by omega)
          | false => rfl
      | false =>
        have hk1 : k % 2 ≠ 1 := fun e => by rw [e] at h1; simp at h1
        simp only [Tr.getF]
        cases hj0 : Nat.beq j 0 with
        | true => rfl
        | false =>
          have hjn : j ≠ 0 := fun e => by subst e; simp at hj0
          cases hj1 : Nat.beq (j % 2) 1 with
          | true => rfl
          | false =>
            have hj2 : j % 2 ≠ 1 := fun e => by rw [e] at hj1; simp at hj1
            exact Tr.getF_setF_ne f g (k / 2 - 1) (j / 2 - 1) r x (by omega) (by omega) (by omega)

theorem Tr.get_set_eq {α : Type} (t : Tr α) (k : Nat) (x : α) : (t.set k x).get k = some x :=
  Tr.getF_setF_eq (k + 1) k t x (by omega)
theorem Tr.get_set_ne {α : Type} (t : Tr α) {k j : Nat} (x : α) (h : j ≠ k) : (t.set k x).get j = t.get j :=
  Tr.getF_setF_ne (j + 1) (k + 1) k j t x (by omega) (by omega) h
theorem Tr.get_set {α : Type} (t : Tr α) (k j : Nat) (x : α) : (t.set k x).get j = if j = k then some x else t.get j := by
  split
  · rename_i h; subst h; exact Tr.get_set_eq _ _ _
  · rename_i h; exact Tr.get_set_ne _ _ h
theorem Tr.get_nil {α : Type} (k : Nat) : (Tr.nil : Tr α).get k = none := Tr.getF_nil _ _

theorem nth_eq {α : Type} : ∀ (l : List α) (i : Nat), nth l i = l[i]?
  | [], _ => by simp [nth]
  | x :: l, 0 => by simp [nth]
  | x :: l, i + 1 => by simp [nth, nth_eq l i]

theorem dropO_eq {α : Type} : ∀ (i : Nat) (l r : List α), dropO i l = some r → r = l.drop i ∧ i ≤ l.length
  | 0, l, r, h => by simp [dropO] at h; simp [h]
  | i + 1, [], r, h => by simp [dropO] at h
  | i + 1, x :: l, r, h => by
    have := dropO_eq i l r (by simpa [dropO] using h)
    exact ⟨by simpa using this.1, by simp; exact this.2⟩

theorem takeO_eq {α : Type} : ∀ (i : Nat) (l r : List α), takeO i l = some r → r = l.take i ∧ i ≤ l.length
  | 0, l, r, h => by simp [takeO] at h; simp [h]
  | i + 1, [], r, h => by simp [takeO] at h
  | i + 1, x :: l, r, h => by
    simp only [takeO] at h
    cases h1 : takeO i l with
    | none => simp [h1] at h
    | some q =>
      simp only [h1] at h
      have := takeO_eq i l q h1
      cases h
      exact ⟨by simp [this.1], by simp; exact this.2⟩

theorem takeO_some {α : Type} : ∀ (i : Nat) (l : List α), i ≤ l.length → takeO i l = some (l.take i)
  | 0, l, _ => by simp [takeO]
  | i + 1, [], h => by simp at h
  | i + 1, x :: l, h => by simp [takeO, takeO_some i l (by simpa using h)]

theorem rowOf_eq {cs : List Value} {lo k : Nat} {l : List Value} (h : rowOf cs lo k = some l) : l = (cs.drop lo).take k ∧ lo + k ≤ cs.length := by
  unfold rowOf at h
  cases h1 : dropO lo cs with
  | none => simp [h1] at h
  | some r =>
    simp only [h1] at h
    have a := dropO_eq _ _ _ h1
    have b := takeO_eq _ _ _ h
    rw [a.1] at b
    exact ⟨b.1, by have := b.2; simp at this; omega⟩
theorem rowOf_get {cs : List Value} {lo k : Nat} {l : List Value} (h : rowOf cs lo k = some l) (i : Nat) (hi : i < k) : l[i]? = cs[lo + i]? := by
  rw [(rowOf_eq h).1, List.getElem?_take, if_pos hi, List.getElem?_drop]
theorem rowOf_length {cs : List Value} {lo k : Nat} {l : List Value} (h : rowOf cs lo k = some l) : l.length = k := by
  have := rowOf_eq h
  rw [this.1]; simp; omega

theorem over_eq {α : Type} : ∀ (vs l r : List α), over vs l = some r → r = vs ++ l.drop vs.length ∧ vs.length ≤ l.length
  | [], l, r, h => by simp [over] at h; simp [h]
  | v :: vs, [], r, h => by simp [over] at h
  | v :: vs, x :: l, r, h => by
    simp only [over] at h
    cases h1 : over vs l with
    | none => simp [h1] at h
    | some q =>
      simp only [h1] at h
      have := over_eq vs l q h1
      cases h
      exact ⟨by simp [this.1], by simp; exact this.2⟩

theorem putAt_eq {α : Type} : ∀ (i : Nat) (vs l r : List α), putAt i vs l = some r → r = l.take i ++ vs ++ l.drop (i + vs.length) ∧ i + vs.length ≤ l.length
  | 0, vs, l, r, h => by
    have := over_eq vs l r (by cases l <;> simpa [putAt] using h)
    simpa using this
  | i + 1, vs, [], r, h => by simp [putAt] at h
  | i + 1, vs, x :: l, r, h => by
    simp only [putAt] at h
    cases h1 : putAt i vs l with
    | none => simp [h1] at h
    | some q =>
      simp only [h1] at h
      have := putAt_eq i vs l q h1
      cases h
      refine ⟨?_, by simp; omega⟩
      rw [this.1, show i + 1 + vs.length = (i + vs.length) + 1 from by omega]
      simp

theorem putAt_length {α : Type} {i : Nat} {vs l r : List α} (h : putAt i vs l = some r) : r.length = l.length := by
  have := putAt_eq _ _ _ _ h
  rw [this.1]; simp; omega
theorem putAt_get {α : Type} {i : Nat} {vs l r : List α} (h : putAt i vs l = some r) (j : Nat) :
    r[j]? = if i ≤ j ∧ j < i + vs.length then vs[j - i]? else l[j]? := by
  obtain ⟨e, hl⟩ := putAt_eq _ _ _ _ h
  rw [e]
  have hi : i ≤ l.length := by omega
  rw [List.append_assoc, List.getElem?_append, List.length_take, Nat.min_eq_left hi]
  split
  · rename_i h1
    rw [List.getElem?_take, if_pos h1, if_neg (by omega)]
  · rename_i h1
    rw [List.getElem?_append]
    split
    · rename_i h2; rw [if_pos (by omega)]
    · rename_i h2
      rw [List.getElem?_drop, if_neg (by omega)]
      congr 1; omega

theorem force_eq {α : Type} (n : Nat) (k : Nat → α) : force n k = k n := by cases n <;> rfl
theorem forceI_eq {α : Type} (i : Int) (k : Int → α) : forceI i k = k i := by cases i <;> simp [forceI, force_eq]
theorem mkInt_eq (k : IntKind) (n : Int) : mkInt k n = some (.int k n) := by simp [mkInt, forceI_eq]
theorem mkSlice_eq (a : Option Addr) (n c : Nat) : mkSlice a n c = .slice a n c := by simp [mkSlice, force_eq]

section
variable {α β : Type}
theorem M.bnd_some {x : M α} {f : α → M β} {s : S} {r : β × S} (h : M.bnd x f s = some r) : ∃ a s1, x s = some (a, s1) ∧ f a s1 = some r := by
  simp only [M.bnd] at h
  cases hx : x s with
  | none => simp [hx] at h
  | some p => obtain ⟨a, s1⟩ := p; exact ⟨a, s1, rfl, by simpa [hx] using h⟩
theorem M.bnd_eq {x : M α} {f : α → M β} {s s1 : S} {a : α} (h : x s = some (a, s1)) : M.bnd x f s = f a s1 := by simp [M.bnd, h]
theorem M.ret_some {a b : α} {s s' : S} (h : M.ret a s = some (b, s')) : b = a ∧ s' = s := by simp [M.ret] at h; exact ⟨h.1.symm, h.2.symm⟩
theorem M.opt_some {o : Option α} {b : α} {s s' : S} (h : M.opt o s = some (b, s')) : o = some b ∧ s' = s := by
  cases o with
  | none => simp [M.opt] at h
  | some a => simp [M.opt] at h; exact ⟨by rw [h.1], h.2.symm⟩
theorem M.fail_some {b : α} {s s' : S} (h : M.fail s = some (b, s')) : False := by simp [M.fail] at h
end
end Go.Shade
