/- Regions that draw their order: what any order comes to. Part 1: orders, in plain terms. -/
import Derived.Test.YteailohgaoglnaaGreatDoorShadeV
namespace Go.Shade
set_option linter.unusedVariables false

def At (X W : Nat → Prop) (k : Nat) : Prop := (k = 0 ∧ ∀ j, X j → ¬ W j) ∨ ∃ j, k = j + 1 ∧ X j ∧ W j ∧ ∀ j', X j' → W j' → j' ≤ j

theorem At.exists {X : Nat → Prop} (W : Nat → Prop) {N : Nat} (hX : ∀ j, X j → j < N) : ∃ k, At X W k := by
  have key : ∀ n, (∃ j, X j ∧ W j ∧ ∀ j', j' < n → X j' → W j' → j' ≤ j) ∨ ∀ j, j < n → X j → ¬ W j := by
    intro n
    induction n with
    | zero => exact .inr fun j hj => by omega
    | succ n ih =>
      by_cases h : X n ∧ W n
      · exact .inl ⟨n, h.1, h.2, fun j' hj _ _ => by omega⟩
      · rcases ih with ⟨j, h1, h2, h3⟩ | h0
        · refine .inl ⟨j, h1, h2, fun j' hj a b => ?_⟩
          by_cases hjn : j' = n
          · subst hjn; exact absurd ⟨a, b⟩ h
          · exact h3 j' (by omega) a b
        · refine .inr fun j hj a b => ?_
          by_cases hjn : j = n
          · subst hjn; exact h ⟨a, b⟩
          · exact h0 j (by omega) a b
  rcases key N with ⟨j, h1, h2, h3⟩ | h0
  · exact ⟨j + 1, .inr ⟨j, rfl, h1, h2, fun j' a b => h3 j' (hX j' a) a b⟩⟩
  · exact ⟨0, .inl ⟨rfl, fun j a => h0 j (hX j a) a⟩⟩

theorem steady {α : Type} {val : Nat → α} {W : Nat → Prop} {N : Nat} (h : ∀ j, j < N → ¬ W j → val (j + 1) = val j) (k : Nat) : ∀ i, k ≤ i → i ≤ N → (∀ j, k ≤ j → j < i → ¬ W j) → val i = val k := by
  intro i
  induction i with
  | zero => intro hk _ _; rw [show k = 0 from by omega]
  | succ i ih =>
    intro hk hN hn
    by_cases hki : k = i + 1
    · subst hki; rfl
    · rw [h i (by omega) (hn i (by omega) (by omega))]
      exact ih (by omega) (by omega) fun j a b => hn j a (by omega)

theorem At.before {α : Type} {val : Nat → α} {X W : Nat → Prop} {N i k : Nat} (hs : ∀ j, j < N → ¬ W j → val (j + 1) = val j) (hi : ¬ X i) (hiN : i ≤ N) (hA : ∀ j, j < i → W j → X j) (hB : ∀ j, X j → W j → ¬ i < j) (h : At X W k) : val i = val k := by
  rcases h with ⟨rfl, h0⟩ | ⟨j, rfl, h1, h2, h3⟩
  · exact steady hs 0 i (by omega) hiN fun j _ hj hw => h0 j (hA j hj hw) hw
  · have hne : j ≠ i := fun e => hi (e ▸ h1)
    have hle := hB j h1 h2
    refine steady hs (j + 1) i (by omega) hiN fun q hq hqi hw => ?_
    have := h3 q (hA q hqi hw) hw
    omega

theorem At.wrote {X W : Nat → Prop} {i k : Nat} (hw : W i) (hB : ∀ j, X j → W j → ¬ i < j) (h : At (fun j => X j ∨ j = i) W k) : k = i + 1 := by
  rcases h with ⟨_, h0⟩ | ⟨j, rfl, h1, h2, h3⟩
  · exact absurd hw (h0 i (.inr rfl))
  · have := h3 i (.inr rfl) hw
    rcases h1 with h1 | rfl
    · have := hB j h1 h2; omega
    · rfl

theorem At.kept {X W : Nat → Prop} {i k : Nat} (hw : ¬ W i) (h : At (fun j => X j ∨ j = i) W k) : At X W k := by
  rcases h with ⟨e, h0⟩ | ⟨j, e, h1, h2, h3⟩
  · exact .inl ⟨e, fun j hj => h0 j (.inl hj)⟩
  · rcases h1 with h1 | rfl
    · exact .inr ⟨j, e, h1, h2, fun j' a b => h3 j' (.inl a) b⟩
    · exact absurd h2 hw

/-- All of it. -/
theorem At.all {α : Type} {val : Nat → α} {X W : Nat → Prop} {N k : Nat} (hs : ∀ j, j < N → ¬ W j → val (j + 1) = val j) (hX : ∀ j, X j ↔ j < N) (h : At X W k) : val N = val k := by
  rcases h with ⟨rfl, h0⟩ | ⟨j, rfl, h1, h2, h3⟩
  · exact steady hs 0 N (by omega) (Nat.le_refl _) fun j _ hj => h0 j ((hX j).2 hj)
  · refine steady hs (j + 1) N (by have := (hX j).1 h1; omega) (Nat.le_refl _) fun q hq hqN hw => ?_
    have := h3 q ((hX q).2 hqN) hw
    omega

/-- The first k values, the last one first. -/
def revl {α : Type} (f : Nat → α) : Nat → List α
  | 0 => []
  | k + 1 => f k :: revl f k
theorem revl_length {α : Type} (f : Nat → α) : ∀ k, (revl f k).length = k
  | 0 => rfl
  | k + 1 => by simp [revl, revl_length f k]
theorem revl_get {α : Type} (f : Nat → α) : ∀ k t, t < k → nth (revl f k) (k - 1 - t) = some (f t)
  | 0, t, h => by omega
  | k + 1, t, h => by
    by_cases ht : t = k
    · subst ht; simp [revl, nth]
    · rw [show k + 1 - 1 - t = (k - 1 - t) + 1 from by omega]
      exact revl_get f k t (by omega)
theorem revl_congr {α : Type} {f g : Nat → α} : ∀ k, (∀ j, j < k → f j = g j) → revl f k = revl g k
  | 0, _ => rfl
  | k + 1, h => by simp only [revl]; rw [h k (by omega), revl_congr k fun j hj => h j (by omega)]
theorem revl_shift {α : Type} (f : Nat → α) : ∀ k, revl f (k + 1) = revl (fun j => f (j + 1)) k ++ [f 0]
  | 0 => rfl
  | k + 1 => by
    show f (k + 1) :: revl f (k + 1) = _
    rw [revl_shift f k]; rfl

theorem clashOne_spec {bj : Nat} {rj : Rec} {rf : Nat → Rec} : ∀ k, clashOne bj rj (revl rf k) (k - 1) = true → ∀ i, i < k → bj.testBit i = true ∨ (rf i).clash rj = false
  | 0, _, i, hi => by omega
  | k + 1, h, i, hi => by
    simp only [revl, clashOne, Nat.add_sub_cancel, Bool.and_eq_true, Bool.or_eq_true, Bool.not_eq_true'] at h
    by_cases hik : i = k
    · subst hik; exact h.1
    · exact clashOne_spec k h.2 i (by omega)
theorem noClash_spec {bf : Nat → Nat} {rf : Nat → Rec} : ∀ k, noClash (revl rf k) (revl bf k) (k - 1) = true → ∀ j, j < k → ∀ i, i < j → (bf j).testBit i = true ∨ (rf i).clash (rf j) = false
  | 0, _, j, hj => by omega
  | k + 1, h, j, hj => by
    simp only [revl, noClash, Nat.add_sub_cancel, Bool.and_eq_true] at h
    by_cases hjk : j = k
    · subst hjk; exact clashOne_spec j h.1
    · exact noClash_spec k h.2 j (by omega)

/-- What stands ahead of each. -/
def bitsL (ops : List Oper) : Nat → List Nat
  | 0 => []
  | j + 1 => (match ops[j]? with | some o => edgeBits (bitsL ops j) j o.after.toList | none => 0) :: bitsL ops j
def bitsF (ops : List Oper) (j : Nat) : Nat := match ops[j]? with | some o => edgeBits (bitsL ops j) j o.after.toList | none => 0
theorem bitsL_eq (ops : List Oper) : ∀ j, bitsL ops j = revl (bitsF ops) j
  | 0 => rfl
  | j + 1 => by simp only [bitsL, revl, bitsL_eq ops j, bitsF]
theorem aheadBits_eq (ops : List Oper) : ∀ (l : List Oper) (i : Nat), l = ops.drop i → i ≤ ops.length → aheadBits l i (bitsL ops i) = bitsL ops ops.length
  | [], i, h, hi => by
    have : ops.length ≤ i := by
      rcases Nat.lt_or_ge i ops.length with h1 | h1
      · have := congrArg List.length h; simp at this; omega
      · exact h1
    rw [show i = ops.length from by omega]; rfl
  | o :: l, i, h, hi => by
    have hlt : i < ops.length := by
      rcases Nat.lt_or_ge i ops.length with h1 | h1
      · exact h1
      · rw [List.drop_eq_nil_of_le h1] at h; cases h
    rw [List.drop_eq_getElem_cons hlt] at h
    injection h with h1 h2
    have hb : bitsL ops (i + 1) = edgeBits (bitsL ops i) i o.after.toList :: bitsL ops i := by
      simp only [bitsL, List.getElem?_eq_getElem hlt, h1]
    simp only [aheadBits]
    rw [← hb]
    exact aheadBits_eq ops l (i + 1) h2 (by omega)
theorem aheadBits_all (ops : List Oper) : aheadBits ops 0 [] = revl (bitsF ops) ops.length := by
  rw [← bitsL_eq]; exact aheadBits_eq ops ops 0 (by simp) (by omega)

theorem edgeBits_spec {bf : Nat → Nat} {j i : Nat} : ∀ l : List Edge, (∀ e ∈ l, Region.binds .any e = true → e.on < j) → (edgeBits (revl bf j) j l).testBit i = true → ∃ e ∈ l, Region.binds .any e = true ∧ (i = e.on ∨ (bf e.on).testBit i = true)
  | [], _, h => by simp [edgeBits] at h
  | e :: l, hb, h => by
    simp only [edgeBits] at h
    cases he : Region.binds .any e with
    | false =>
      rw [he] at h
      obtain ⟨e', h1, h2⟩ := edgeBits_spec l (fun e' h' => hb e' (by simp [h'])) h
      exact ⟨e', by simp [h1], h2⟩
    | true =>
      rw [he] at h
      simp only [Nat.testBit_or, Bool.or_eq_true] at h
      have hlt := hb e (by simp) he
      rcases h with (h | h) | h
      · rw [Nat.testBit_two_pow] at h
        exact ⟨e, by simp, he, .inl (by have := of_decide_eq_true h; exact this.symm)⟩
      · rw [revl_get bf j e.on hlt] at h
        exact ⟨e, by simp, he, .inr h⟩
      · obtain ⟨e', h1, h2⟩ := edgeBits_spec l (fun e' h' => hb e' (by simp [h'])) h
        exact ⟨e', by simp [h1], h2⟩

/-- Edges point back. -/
def Back (ops : List Oper) : Prop := ∀ (j : Nat) (o : Oper), ops[j]? = some o → ∀ e ∈ o.after.toList, Region.binds .any e = true → e.on < j

theorem bits_closed {ops : List Oper} (hb : Back ops) {X : Nat → Prop} (hX : ∀ j, X j → ∀ o, ops[j]? = some o → ∀ e ∈ o.after.toList, Region.binds .any e = true → X e.on) :
    ∀ (j : Nat) (o : Oper), ops[j]? = some o → (∀ e ∈ o.after.toList, Region.binds .any e = true → X e.on) → ∀ i, (bitsF ops j).testBit i = true → X i := by
  intro j
  induction j using Nat.strongRecOn with
  | _ j ih =>
    intro o ho hp i hbit
    simp only [bitsF, ho, bitsL_eq] at hbit
    obtain ⟨e, he, hbe, h⟩ := edgeBits_spec _ (hb j o ho) hbit
    have hlt := hb j o ho e he hbe
    have hXe := hp e he hbe
    rcases h with rfl | h
    · exact hXe
    · cases hoe : ops[e.on]? with
      | none => simp [bitsF, hoe] at h
      | some o' => exact ih e.on hlt o' hoe (hX _ hXe o' hoe) i h

/-- The bit of what is looked at, what is put. -/
def bitOf : Option Tmp → Nat
  | some d => 2 ^ d
  | none => 0
def lookBits (ops : List Oper) (o : Oper) : Nat :=
  o.op.operands.toList.foldr (fun x r => match x with | .tmp t => 2 ^ t ||| r | _ => r) (match o.guard with | some (g, _) => bitOf (dstOf ops g) | none => 0)
def apartBits (bj lj dj : Nat) : List (Nat × Nat) → Nat → Bool
  | [], _ => true
  | (li, di) :: l, i => (bj.testBit i || (Nat.beq (di &&& lj) 0 && Nat.beq (di &&& dj) 0 && Nat.beq (dj &&& li) 0)) && apartBits bj lj dj l (i - 1)
def allApart : List (Nat × Nat) → List Nat → Nat → Bool
  | (lj, dj) :: l, b :: bits, j => apartBits b lj dj l (j - 1) && allApart l bits (j - 1)
  | _, _, _ => true
def maskL (ops : List Oper) : List Oper → List (Nat × Nat) → List (Nat × Nat)
  | [], acc => acc
  | o :: l, acc => maskL ops l ((lookBits ops o, bitOf o.dst) :: acc)
def backOk : List Oper → Nat → Bool
  | [], _ => true
  | o :: l, j => (o.after.toList.all fun e => !Region.binds .any e || Nat.blt e.on j) && backOk l (j + 1)
def okDraw (ops : List Oper) : Bool := backOk ops 0 && allApart (maskL ops ops []) (aheadBits ops 0 []) (ops.length - 1)

theorem backOk_spec (ops : List Oper) : ∀ (l : List Oper) (i : Nat), l = ops.drop i → backOk l i = true → ∀ j o, i ≤ j → ops[j]? = some o → ∀ e ∈ o.after.toList, Region.binds .any e = true → e.on < j
  | [], i, h, _, j, o, hij, ho, e, he, hb => by
    have h1 := congrArg List.length h
    simp at h1
    have := (List.getElem?_eq_some_iff.1 ho).1
    omega
  | o' :: l, i, h, hk, j, o, hij, ho, e, he, hb => by
    have hlt : i < ops.length := by
      rcases Nat.lt_or_ge i ops.length with h1 | h1
      · exact h1
      · rw [List.drop_eq_nil_of_le h1] at h; cases h
    rw [List.drop_eq_getElem_cons hlt] at h
    injection h with h1 h2
    simp only [backOk, Bool.and_eq_true, List.all_eq_true] at hk
    by_cases hj : j = i
    · subst hj
      rw [List.getElem?_eq_getElem hlt] at ho
      cases ho
      have := hk.1 e (by rw [h1]; exact he)
      rw [hb] at this
      simpa [Nat.blt_eq] using this
    · exact backOk_spec ops l (i + 1) h2 hk.2 j o (by omega) ho e he hb

theorem maskL_eq (ops : List Oper) (mf : Nat → Nat × Nat) (hm : ∀ j o, ops[j]? = some o → mf j = (lookBits ops o, bitOf o.dst)) : ∀ (l : List Oper) (i : Nat), l = ops.drop i → i ≤ ops.length → maskL ops l (revl mf i) = revl mf ops.length
  | [], i, h, hi => by
    have : ops.length ≤ i := by
      rcases Nat.lt_or_ge i ops.length with h1 | h1
      · have := congrArg List.length h; simp at this; omega
      · exact h1
    rw [show i = ops.length from by omega]; rfl
  | o :: l, i, h, hi => by
    have hlt : i < ops.length := by
      rcases Nat.lt_or_ge i ops.length with h1 | h1
      · exact h1
      · rw [List.drop_eq_nil_of_le h1] at h; cases h
    rw [List.drop_eq_getElem_cons hlt] at h
    injection h with h1 h2
    simp only [maskL]
    have : (lookBits ops o, bitOf o.dst) :: revl mf i = revl mf (i + 1) := by
      simp only [revl]; rw [hm i o (by rw [List.getElem?_eq_getElem hlt, h1])]
    rw [this]
    exact maskL_eq ops mf hm l (i + 1) h2 (by omega)

theorem apartBits_spec {bj lj dj : Nat} {mf : Nat → Nat × Nat} : ∀ k, apartBits bj lj dj (revl mf k) (k - 1) = true → ∀ i, i < k → bj.testBit i = true ∨ ((mf i).2 &&& lj = 0 ∧ (mf i).2 &&& dj = 0 ∧ dj &&& (mf i).1 = 0)
  | 0, _, i, hi => by omega
  | k + 1, h, i, hi => by
    generalize hmk : mf k = q at h
    obtain ⟨li, di⟩ := q
    simp only [revl, hmk, apartBits, Nat.add_sub_cancel, Bool.and_eq_true, Bool.or_eq_true] at h
    by_cases hik : i = k
    · subst hik
      rw [hmk]
      rcases h.1 with h1 | ⟨⟨h1, h2⟩, h3⟩
      · exact .inl h1
      · exact .inr ⟨Nat.eq_of_beq_eq_true h1, Nat.eq_of_beq_eq_true h2, Nat.eq_of_beq_eq_true h3⟩
    · exact apartBits_spec k h.2 i (by omega)
theorem allApart_spec {mf : Nat → Nat × Nat} {bf : Nat → Nat} : ∀ k, allApart (revl mf k) (revl bf k) (k - 1) = true → ∀ j, j < k → ∀ i, i < j → (bf j).testBit i = true ∨ ((mf i).2 &&& (mf j).1 = 0 ∧ (mf i).2 &&& (mf j).2 = 0 ∧ (mf j).2 &&& (mf i).1 = 0)
  | 0, _, j, hj => by omega
  | k + 1, h, j, hj => by
    generalize hmk : mf k = q at h
    obtain ⟨lj, dj⟩ := q
    simp only [revl, hmk, allApart, Nat.add_sub_cancel, Bool.and_eq_true] at h
    by_cases hjk : j = k
    · subst hjk; rw [hmk]; exact apartBits_spec j h.1
    · exact allApart_spec k h.2 j (by omega)

/-- What an operation looks at. -/
def looks (ops : List Oper) (o : Oper) (d : Tmp) : Prop := Operand.tmp d ∈ o.op.operands.toList ∨ ∃ g want, o.guard = some (g, want) ∧ dstOf ops g = some d

theorem look_bit {ops : List Oper} {o : Oper} {d : Tmp} (h : looks ops o d) : (lookBits ops o).testBit d = true := by
  unfold lookBits
  generalize hb : (match o.guard with | some (g, _) => bitOf (dstOf ops g) | none => 0) = b
  have key : ∀ l : List Operand, (Operand.tmp d ∈ l ∨ b.testBit d = true) → (l.foldr (fun x r => match x with | .tmp t => 2 ^ t ||| r | _ => r) b).testBit d = true := by
    intro l
    induction l with
    | nil => rintro (h | h); cases h; exact h
    | cons x l ih =>
      intro h
      simp only [List.foldr_cons]
      have h' : x = .tmp d ∨ (Operand.tmp d ∈ l ∨ b.testBit d = true) := by
        rcases h with h | h
        · rcases List.mem_cons.1 h with h | h
          · exact .inl h.symm
          · exact .inr (.inl h)
        · exact .inr (.inr h)
      rcases h' with rfl | h'
      · simp [Nat.testBit_or, Nat.testBit_two_pow]
      · have := ih h'
        cases x <;> simp [Nat.testBit_or, this]
  refine key _ ?_
  rcases h with h | ⟨g, want, hg, hd⟩
  · exact .inl h
  · right
    rw [← hb, hg]
    simp [hd, bitOf, Nat.testBit_two_pow]

theorem and_bit {a b d : Nat} (h : a &&& b = 0) (ha : a.testBit d = true) : b.testBit d = false := by
  have := congrArg (Nat.testBit · d) h
  simpa [Nat.testBit_and, ha] using this

def Apart (ops : List Oper) (x y : Oper) : Prop := (∀ d, x.dst = some d → ¬ looks ops y d ∧ y.dst ≠ some d) ∧ ∀ d, y.dst = some d → ¬ looks ops x d

theorem okDraw_spec {ops : List Oper} (h : okDraw ops = true) : Back ops ∧ ∀ j oj, ops[j]? = some oj → ∀ i oi, i < j → ops[i]? = some oi → (bitsF ops j).testBit i = true ∨ Apart ops oi oj := by
  simp only [okDraw, Bool.and_eq_true] at h
  refine ⟨fun j o ho => backOk_spec ops ops 0 (by simp) h.1 j o (by omega) ho, ?_⟩
  intro j oj hj i oi hij hi
  let mf : Nat → Nat × Nat := fun j => match ops[j]? with | some o => (lookBits ops o, bitOf o.dst) | none => (0, 0)
  have hm : ∀ j o, ops[j]? = some o → mf j = (lookBits ops o, bitOf o.dst) := fun j o ho => by simp [mf, ho]
  have h2 := h.2
  rw [aheadBits_all, show ([] : List (Nat × Nat)) = revl mf 0 from rfl, maskL_eq ops mf hm ops 0 (by simp) (by omega)] at h2
  rcases allApart_spec _ h2 j (List.getElem?_eq_some_iff.1 hj).1 i hij with h3 | ⟨a1, a2, a3⟩
  · exact .inl h3
  · rw [hm j oj hj, hm i oi hi] at a1 a2 a3
    refine .inr ⟨fun d hd => ⟨fun hl => ?_, fun hd2 => ?_⟩, fun d hd hl => ?_⟩
    · have := and_bit (d := d) a1 (by simp [hd, bitOf, Nat.testBit_two_pow])
      rw [look_bit hl] at this; cases this
    · have := and_bit (d := d) a2 (by simp [hd, bitOf, Nat.testBit_two_pow])
      simp [hd2, bitOf, Nat.testBit_two_pow] at this
    · have := and_bit (d := d) a3 (by simp [hd, bitOf, Nat.testBit_two_pow])
      rw [look_bit hl] at this; cases this
end Go.Shade
