/- The evaluator's operations beside the model's. Part 3: slices, conversions, append, maps. -/
import Derived.Test.YteailohgaoglnaaGreatDoorShadeL
import Derived.Laws.Append
namespace Go.Shade
open Go.RowKit
set_option linter.unusedVariables false

section
variable {P : Program} {base : Nat} {m : Mp} {s : S} {w : World}

/-- What a bound reads as. -/
theorem natO_some {o o' : Option Value} {r : Option Nat} (h : natO o = some r) (hr : ∀ v, o = some v → ∃ v', o' = some v' ∧ VRel m v v') (hn : o = none → o' = none) :
    (r = none ∧ o' = none) ∨ ∃ k n, r = some n ∧ o' = some (.int k (.ofNat n)) := by
  cases o with
  | none => simp [natO] at h; exact .inl ⟨h.symm, hn rfl⟩
  | some v =>
    simp only [natO] at h
    cases h1 : nat? v with
    | none => simp [h1] at h
    | some n =>
      simp only [h1, Option.some.injEq] at h
      obtain ⟨k, rfl⟩ := nat?_some h1
      obtain ⟨v', h2, h3⟩ := hr _ rfl
      cases h3.int_inv
      exact .inr ⟨k, n, h.symm, h2⟩

theorem run_bound (k : IntKind) {n y : Nat} (c : BoundsCode) (h : n ≤ y) : (Instr.sliceBound (.int k (.ofNat n)) y c).run P w = .ok n w := by
  simp only [Instr.sliceBound, asIntOf, Sem.run_bind, Sem.run_pure, Result.andThen_ok]
  rw [if_pos (by constructor <;> simp; omega)]
  simp

theorem run_bound' (k : IntKind) {n y : Nat} (c : BoundsCode) (h : n ≤ y) : (Instr.sliceBound (.int k (n : Int)) y c).run P w = .ok n w := run_bound k c h

/-- The three bounds of a slice expression, where they hold. -/
theorem run_bounds (isS : Bool) {len cap : Nat} {lo hi mx : Option Nat} {lo' hi' mx' : Option Value} (hlo : (lo = none ∧ lo' = none) ∨ ∃ k n, lo = some n ∧ lo' = some (.int k (.ofNat n)))
    (hhi : (hi = none ∧ hi' = none) ∨ ∃ k n, hi = some n ∧ hi' = some (.int k (.ofNat n))) (hmx : (mx = none ∧ mx' = none) ∨ ∃ k n, mx = some n ∧ mx' = some (.int k (.ofNat n)))
    (h1 : mx.getD cap ≤ cap) (h2 : hi.getD len ≤ mx.getD cap) (h3 : lo.getD 0 ≤ hi.getD len) (h4 : mx.isSome → hi.isSome) :
    (Instr.sliceBounds isS len cap lo' hi' mx').run P w = .ok (lo.getD 0, hi.getD len, mx.getD cap) w := by
  unfold Instr.sliceBounds
  rcases hmx with ⟨rfl, rfl⟩ | ⟨km, nm, rfl, rfl⟩ <;> rcases hhi with ⟨rfl, rfl⟩ | ⟨kh, nh, rfl, rfl⟩ <;> rcases hlo with ⟨rfl, rfl⟩ | ⟨kl, nl, rfl, rfl⟩ <;>
    simp only [Option.getD_none, Option.getD_some] at h1 h2 h3 h4 ⊢ <;>
    first
      | (simp at h4; done)
      | (simp [run_bound', h1, h2, h3])

theorem capOf_odd (a : Addr) (c : Nat) : capOf (some a) (2 * c + 1) = (c, true) := by
  have h1 : (2 * c + 1) % 2 = 1 := by omega
  have h2 : (2 * c + 1) / 2 = c := by omega
  simp [capOf, h1, h2]
theorem capOf_even (a : Addr) (c : Nat) {k : Nat} (hk : k < 65536) : capOf (some a) (codeI c k) = (c, false) := by
  have h1 : codeI c k % 2 = 0 := by unfold codeI; omega
  have h2 : codeI c k / 2 / 65536 = c := by unfold codeI; omega
  simp [capOf, h1, h2]
theorem eszOf_code (c : Nat) {k : Nat} (hk : k < 65536) : eszOf (codeI c k) = k := by unfold eszOf codeI; omega

theorem maxRel {k c l h mm : Nat} {a a' : Option Addr} {v : Value} (e : sliceMax k a c l h mm = some v)
    (ha : (a = none ∧ a' = none ∧ c = 0) ∨ (a = some voidA ∧ c = 0 ∧ ∃ x, a' = some x) ∨ ∃ b i lc, m b = some lc ∧ a = some ⟨b, i, none⟩ ∧ a' = some ⟨lc.cb, lc.off + i, none⟩) :
    mm ≤ c ∧ h ≤ mm ∧ l ≤ h ∧ VRel m v (.slice (if mm = l then a' else a'.map (·.add (l * k))) (h - l) (mm - l)) := by
  unfold sliceMax at e
  cases hb : Nat.ble mm c && Nat.ble h mm && Nat.ble l h with
  | false => simp [hb] at e
  | true =>
    simp only [hb, mkSlice_eq, Option.some.injEq] at e
    simp only [Bool.and_eq_true] at hb
    obtain ⟨⟨b1, b2⟩, b3⟩ := hb
    have b1 := Nat.le_of_ble_eq_true b1
    have b2 := Nat.le_of_ble_eq_true b2
    have b3 := Nat.le_of_ble_eq_true b3
    refine ⟨b1, b2, b3, ?_⟩
    subst e
    rcases ha with ⟨rfl, rfl, rfl⟩ | ⟨rfl, rfl, x, rfl⟩ | ⟨b, i, lc, hm, rfl, rfl⟩
    · obtain rfl : mm = 0 := by omega
      obtain rfl : h = 0 := by omega
      obtain rfl : l = 0 := by omega
      exact .nilSlice
    · obtain rfl : mm = 0 := by omega
      obtain rfl : h = 0 := by omega
      obtain rfl : l = 0 := by omega
      exact .voidE
    · by_cases hml : mm = l
      · subst hml
        rw [if_pos rfl, show Nat.beq mm mm = true from Nat.beq_refl mm]
        exact .sliceE hm
      · rw [if_neg hml, show Nat.beq mm l = false from by cases hq : Nat.beq mm l with | true => exact absurd (Nat.eq_of_beq_eq_true hq) hml | false => rfl]
        simp only [addO, addA, force_eq, Option.map_some, Addr.add_plain, Nat.add_assoc]
        exact .sliceE hm

/-- A slice of a slice. -/
theorem rel_sliceV {k len code len' cap' : Nat} {a a' : Option Addr} {lo hi mx : Option Nat} {v : Value} (e : sliceV k a len code lo hi mx = some v) (hr : VRel m (.slice a len code) (.slice a' len' cap')) :
    mx.getD cap' ≤ cap' ∧ hi.getD len ≤ mx.getD cap' ∧ lo.getD 0 ≤ hi.getD len ∧ (mx.isSome → hi.isSome) ∧ len' = len ∧
    VRel m v (.slice (if mx.getD cap' = lo.getD 0 then a' else a'.map (·.add (lo.getD 0 * k))) (hi.getD len - lo.getD 0) (mx.getD cap' - lo.getD 0)) := by
  -- what is known of the capacity
  obtain ⟨hlen, c, ex, hcap, hle, hex, ha, hI⟩ : len' = len ∧ ∃ c ex, capOf a code = (c, ex) ∧ c ≤ cap' ∧ (ex = true → cap' = c) ∧
      ((a = none ∧ a' = none ∧ c = 0) ∨ (a = some voidA ∧ c = 0 ∧ ∃ x, a' = some x) ∨ ∃ b i lc, m b = some lc ∧ a = some ⟨b, i, none⟩ ∧ a' = some ⟨lc.cb, lc.off + i, none⟩) ∧
      (ex = false → (a = some voidA ∧ c = 0 ∧ ∃ x, a' = some x) ∨ ∃ b i lc q, m b = some lc ∧ a = some ⟨b, i, none⟩ ∧ a' = some ⟨lc.cb, lc.off + i, none⟩ ∧ eszOf code = q ∧ q < 65536 ∧ lc.off + i + cap' * q ≤ lc.sz) := by
    cases hr with
    | atom k => simp [atomic] at k
    | nilSlice => exact ⟨rfl, 0, true, rfl, by omega, fun _ => rfl, .inl ⟨rfl, rfl, rfl⟩, by simp⟩
    | sliceE h => exact ⟨rfl, _, true, capOf_odd _ _, Nat.le_refl _, fun _ => rfl, .inr (.inr ⟨_, _, _, h, rfl, rfl⟩), by simp⟩
    | sliceI h h1 h2 h3 h4 => exact ⟨rfl, _, false, capOf_even _ _ h3, h2, by simp, .inr (.inr ⟨_, _, _, h, rfl, rfl⟩), fun _ => .inr ⟨_, _, _, _, h, rfl, rfl, eszOf_code _ h3, h3, h4⟩⟩
    | void => exact ⟨rfl, 0, false, rfl, by omega, by simp, .inr (.inl ⟨rfl, rfl, _, rfl⟩), fun _ => .inl ⟨rfl, rfl, _, rfl⟩⟩
    | voidE => exact ⟨rfl, 0, true, rfl, by omega, fun _ => rfl, .inr (.inl ⟨rfl, rfl, _, rfl⟩), by simp⟩
  unfold sliceV at e
  simp only [hcap] at e
  refine ⟨?_, ?_, ?_, ?_, hlen, ?_⟩ <;> cases mx with
  | some mm =>
    cases hi with
    | none => simp at e
    | some h =>
      simp only at e
      obtain ⟨h1, h2, h3, h4⟩ := maxRel e ha
      (try simp only [Option.getD_some])
      first | exact h4 | omega | simp
  | none =>
    simp only at e
    cases hl : Nat.ble (hi.getD len) c && Nat.ble (lo.getD 0) (hi.getD len) with
    | false => simp [sliceTo, hl] at e
    | true =>
      have hl' := hl
      simp only [Bool.and_eq_true] at hl'
      obtain ⟨b1, b2⟩ := hl'
      have b1 := Nat.le_of_ble_eq_true b1
      have b2 := Nat.le_of_ble_eq_true b2
      (try simp only [Option.getD_none])
      first
        | omega
        | (simp; done)
        | (cases ex with
           | true =>
             have hc := hex rfl
             subst hc
             have hmax : sliceMax k a cap' (lo.getD 0) (hi.getD len) cap' = some v := by
               simp only [sliceTo, hl] at e
               rw [← e]
               unfold sliceMax
               have : (Nat.ble cap' cap' && Nat.ble (hi.getD len) cap' && Nat.ble (lo.getD 0) (hi.getD len)) = true := by
                 simp only [Bool.and_eq_true] at hl ⊢
                 exact ⟨⟨Nat.ble_eq_true_of_le (Nat.le_refl _), hl.1⟩, hl.2⟩
               rw [this]
             exact (maxRel hmax ha).2.2.2
           | false =>
             simp only [sliceTo, hl] at e
             rcases hI rfl with ⟨rfl, rfl, x, rfl⟩ | ⟨b, i, lc, q, hm, rfl, rfl, hq, hq1, hq2⟩
             · have l0 : lo.getD 0 = 0 := by omega
               have h0 : hi.getD len = 0 := by omega
               rw [l0, h0] at e ⊢
               simp only [Nat.blt] at e
               simp at e
               subst e
               split
               · exact .void
               · exact .void
             · cases hlt : Nat.blt (lo.getD 0) c with
               | true =>
                 simp only [hlt] at e
                 rw [Nat.blt_eq] at hlt
                 cases hbq : Nat.beq (eszOf code) k with
                 | false => simp [hbq] at e
                 | true =>
                   have hbq' := Nat.eq_of_beq_eq_true hbq
                   rw [hq] at hbq'
                   subst hbq'
                   simp only [hbq, mkSlice_eq, addO, addA, force_eq, Option.some.injEq] at e
                   subst e
                   rw [if_neg (by omega)]
                   simp only [Option.map_some, Addr.add_plain, Nat.add_assoc]
                   refine .sliceI hm (by omega) (by omega) hq1 ?_
                   have hs : lo.getD 0 * q + (cap' - lo.getD 0) * q = cap' * q := by
                     rw [← Nat.add_mul]; congr 1; omega
                   omega
               | false =>
                 simp only [hlt, Option.some.injEq] at e
                 subst e
                 have hge : c ≤ lo.getD 0 := by
                   rcases Nat.lt_or_ge (lo.getD 0) c with h1 | h1
                   · rw [← Nat.blt_eq] at h1; rw [h1] at hlt; cases hlt
                   · exact h1
                 rw [show hi.getD len - lo.getD 0 = 0 from by omega]
                 split
                 · exact .void
                 · simp only [Option.map_some, Addr.add_plain]; exact .void)
end
end Go.Shade
