/- The evaluator, its proof and the logic over it: texts joined by wip/mkclaim.py. -/
import Derived.Test.YtmebclfkkloccaaGreatDoorLibB
import Derived.WalkKit
import Derived.ProofKit
import Derived.OpenShut
import Derived.Carry
import Derived.ChangeSlices
import Derived.Deep.DeepHandedRow
set_option linter.unusedSimpArgs false
set_option linter.unusedVariables false
set_option linter.unusedSectionVars false
set_option linter.unnecessarySimpa false
/- The logic over what touches memory: loads, stores, new objects, growing, calls. -/
namespace Go.Shade
set_option linter.unusedVariables false

section
variable {c : Cx} {P : Program} {call : CallSem} {ρ : Operand → Value} {n : Nat} {H : Tr AObj} {x y : Operand} {t : TypeId} {v : Value} {Q : Value → Nat → Tr AObj → Prop}

theorem isAgg_size {k : Nat} (ht : isAgg' P t = some true) (hk : sizeOf' P t = some k) {b i : Nat} : loadV P t b i = M.bnd (rdRow b i k) fun l => M.ret (.agg l.toArray) := by simp [loadV, ht, hk]
theorem w_load {b i : Nat} {cs : List Value} {rw : Bool} {old : List Nat} {esz : Nat} (hx : ρ x = .pointer (some ⟨b, i, none⟩)) (ht : isAgg' P t = some false) (hb : b < n) (hg : H.get b = some (.cells cs rw old esz)) (hv : nth cs i = some v)
    (hR : b < c.n0 → c.R b ∨ c.W b) (h : Q v n H) : Wp c (opV P call ρ (.load t x)) n H Q := by
  unfold opV
  simp only [evOp, opLoad, hx, addrOf, loadV, ht, asVal]
  exact Wp.bnd (Wp.bnd (Wp.rdCell hb hg hv hR (Wp.ret (Wp.ret h))))
theorem w_loadA {b i k : Nat} {cs l : List Value} {rw : Bool} {old : List Nat} {esz : Nat} (hx : ρ x = .pointer (some ⟨b, i, none⟩)) (ht : isAgg' P t = some true) (hk : sizeOf' P t = some k) (hb : b < n) (hg : H.get b = some (.cells cs rw old esz)) (hv : rowOf cs i k = some l)
    (hR : b < c.n0 → c.R b ∨ c.W b) (h : Q (.agg l.toArray) n H) : Wp c (opV P call ρ (.load t x)) n H Q := by
  unfold opV
  simp only [evOp, opLoad, hx, addrOf, loadV, ht, hk, asVal]
  exact Wp.bnd (Wp.bnd (Wp.bnd (Wp.rdRow hb hg hv hR (Wp.ret (Wp.ret (Wp.ret h))))))
theorem w_store {b i k : Nat} {cs cs' : List Value} {old : List Nat} {esz : Nat} (hx : ρ x = .pointer (some ⟨b, i, none⟩)) (hy : ρ y = v) (hk : sizeOf' P t = some k) (hl : (cellsOf v).length = k) (hb : b < n) (hg : H.get b = some (.cells cs true old esz))
    (ho : ∀ o ∈ old, o < n ∧ o ≠ b ∧ H.get o ≠ none ∧ (o < c.n0 → c.W o)) (hp : putAt i (cellsOf v) cs = some cs') (hv : (cellsOf v).all oneCell = true) (hW : b < c.n0 → c.W b) (h : Q undefV n ((killed H old).set b (.cells cs' true [] esz))) :
    Wp c (opV P call ρ (.store t x y)) n H Q := by
  have e : Nat.beq (cellsOf v).length k = true := by rw [hl]; exact Nat.beq_refl _
  unfold opV
  simp only [evOp, opStore, hx, hy, addrOf, storeV, hk, e]
  exact Wp.bnd (Wp.bnd (Wp.wrRow' hb hg ho hp hv hW (Wp.ret (Wp.ret h))))
theorem w_alloc {z : Value} (hz : zero' P t = some z) (hc : (cellsOf z).all oneCell = true) (h : Q (.pointer (some ⟨n, 0, none⟩)) (n + 1) (H.set n (.cells (cellsOf z) true [] 0))) : Wp c (opV P call ρ (.alloc t)) n H Q := by
  unfold opV
  simp only [evOp, opAlloc, hz, ptrTo]
  exact Wp.bnd (Wp.bnd (Wp.newRow hc (Wp.ret (Wp.ret h))))
theorem w_box (hx : ρ x = v) (hc : (cellsOf v).all oneCell = true) (h : Q (.pointer (some ⟨n, 0, none⟩)) (n + 1) (H.set n (.cells (cellsOf v) true [] 0))) : Wp c (opV P call ρ (.box t x)) n H Q := by
  unfold opV
  simp only [evOp, opBox, hx, ptrTo]
  exact Wp.bnd (Wp.bnd (Wp.newRow hc (Wp.ret (Wp.ret h))))
/-- A slice's element type, its cells and bytes, its zero's cells. -/
def eltAll (P : Program) (t : TypeId) : Option (Nat × Nat × List Value) := match P.underlying t with
  | some (.slice e) => match P.info? e, zero' P e with
    | some info, some z => some (info.size, info.bytes, cellsOf z)
    | _, _ => none
  | _ => none
theorem eltAll_some {k bs : Nat} {zs : List Value} (h : eltAll P t = some (k, bs, zs)) : ∃ e info z, P.underlying t = some (.slice e) ∧ P.info? e = some info ∧ zero' P e = some z ∧ info.size = k ∧ info.bytes = bs ∧ cellsOf z = zs := by
  unfold eltAll at h
  cases hu : P.underlying t with
  | none => simp [hu] at h
  | some d =>
    cases d <;> simp [hu] at h ⊢
    rename_i e
    cases hi : P.info? e with
    | none => simp [hi] at h
    | some info =>
      cases hz : zero' P e with
      | none => simp [hi, hz] at h
      | some z => simp [hi, hz] at h; simpa using h
theorem zeros_all {z : List Value} (hz : z.all oneCell = true) : ∀ n, (zeros z n).all oneCell = true
  | 0 => rfl
  | n + 1 => by simp [zeros, List.all_append, hz, zeros_all hz n]
theorem w_makeSlice {k bs l m : Nat} {zs : List Value} {kk kk' : IntKind} {zl zm : Int} (hx : ρ x = .int kk zl) (hy : ρ y = .int kk' zm) (hl : zl = (l : Int)) (hm : zm = (m : Int)) (he : eltAll P t = some (k, bs, zs)) (hlm : l ≤ m) (hmb : m * bs ≤ 2 ^ 40) (hmm : m ≤ 2 ^ 40) (hz : zs.all oneCell = true)
    (h : Q (.slice (some ⟨n, 0, none⟩) l (2 * m + 1)) (n + 1) (H.set n (.cells (zeros zs m) true [] k))) : Wp c (opV P call ρ (.makeSlice t x y)) n H Q := by
  obtain ⟨e, info, z, hu, hi, hzz, rfl, rfl, rfl⟩ := eltAll_some he
  subst hl hm
  have n1 : nat? (.int kk (l : Int)) = some l := rfl
  have n2 : nat? (.int kk' (m : Int)) = some m := rfl
  have b1 : Nat.ble l m = true := Nat.ble_eq_true_of_le hlm
  have b2 : Nat.ble (m * info.bytes) (2 ^ 40) = true := Nat.ble_eq_true_of_le hmb
  have b3 : Nat.ble m (2 ^ 40) = true := Nat.ble_eq_true_of_le hmm
  unfold opV
  simp only [evOp, opMakeSlice, hu, hx, hy, n1, n2, hi, hzz, b1, b2, b3, Bool.and_true, mkSlice_eq]
  exact Wp.bnd (Wp.bnd (Wp.newRow (zeros_all hz m) (Wp.ret (Wp.ret h))))
theorem w_buildSlice {k bs len : Nat} {parts : Array (Nat × Operand)} {ps : List (Nat × Value)} {zs cs : List Value} (he : eltAll P t = some (k, bs, zs)) (hp : parts.toList.map (fun p => (p.1, ρ p.2)) = ps) (hl : Nat.ble (len * k) (2 ^ 24) = true)
    (hf : fillA (fun i => some (i * k, k)) (zeros zs len) ps = some cs) (hc : cs.all oneCell = true)
    (h : Q (.slice (some ⟨n, 0, none⟩) len (2 * len + 1)) (n + 1) (H.set n (.cells cs true [] 0))) : Wp c (opV P call ρ (.buildSlice t len parts)) n H Q := by
  obtain ⟨e, info, z, hu, hi, hzz, rfl, rfl, rfl⟩ := eltAll_some he
  have hk : sizeOf' P e = some info.size := by simp [sizeOf', hi]
  unfold opV
  simp only [evOp, opBuildSlice, hu, hk, hzz, hp, hl, hf]
  exact Wp.bnd (Wp.bnd (Wp.newRow hc (Wp.ret (Wp.ret h))))

/-- What may be read as cells: a slice's first p elements, a string's first p bytes. -/
inductive RdS (c : Cx) (n : Nat) (H : Tr AObj) (k : Nat) : Value → Nat → List Value → Prop where
  | row {b i m code p : Nat} {cs new : List Value} {rw : Bool} {old : List Nat} {esz : Nat} : b < n → (b < c.n0 → c.R b ∨ c.W b) → H.get b = some (.cells cs rw old esz) → rowOf cs i (p * k) = some new → RdS c n H k (.slice (some ⟨b, i, none⟩) m code) p new
  | nil {m code : Nat} : RdS c n H k (.slice none m code) 0 []
  | void {b i j m code : Nat} : RdS c n H k (.slice (some ⟨b, i, some j⟩) m code) 0 []
  | str {s : ByteArray} {p : Nat} {l : List UInt8} : takeO p s.data.toList = some l → RdS c n H k (.string s) p (cellsOfBytes l)
theorem w_rdSlice {k p : Nat} {l : List Value} {Q : List Value → Nat → Tr AObj → Prop} (hr : RdS c n H k v p l) (h : Q l n H) : Wp c (rdSlice k v p) n H Q := by
  cases hr with
  | row h1 h2 h3 h4 => exact Wp.rdRow h1 h3 h4 h2 h
  | nil => exact Wp.ret h
  | void => exact Wp.ret h
  | str e => simp only [rdSlice, e]; exact Wp.ret h

/-- A slice that may grow: its cells; the block in which they lie, and what older ones may lie there. -/
inductive Grow (c : Cx) (n : Nat) (H : Tr AObj) (k : Nat) : Option Addr → Nat → Nat → List Value → Prop where
  | nil {code : Nat} : Grow c n H k none 0 code []
  | full {b i m : Nat} {l cs : List Value} {rw : Bool} {old : List Nat} {esz : Nat} : b < n → (b < c.n0 → c.R b ∨ c.W b) → H.get b = some (.cells cs rw old esz) → rowOf cs i (m * k) = some l → Grow c n H k (some ⟨b, i, none⟩) m (2 * m + 1) l
  | void : Grow c n H k (some voidA) 0 1 []
  | own {b m : Nat} {l : List Value} {olds : List Nat} : b < n → (b < c.n0 → c.W b) → H.get b = some (.cells l true olds k) → l.length = m * k → k < 65536 →
      (∀ o ∈ olds, o < n ∧ o ≠ b ∧ H.get o ≠ none ∧ (o < c.n0 → c.W o)) → Grow c n H k (some ⟨b, 0, none⟩) m (codeI m k) l

def blkIs : Option Addr → Nat → Prop
  | some ⟨b', _, none⟩, b => b = b'
  | _, _ => False
def vblk : Value → Nat → Prop
  | .slice a _ _, b => blkIs a b
  | _, _ => False

theorem capOf_ex {a : Option Addr} {m : Nat} : capOf a (2 * m + 1) = (match a with | none => (0, true) | some _ => (m, true)) := by
  cases a with
  | none => rfl
  | some a =>
    have : Nat.beq ((2 * m + 1) % 2) 1 = true := by rw [show (2 * m + 1) % 2 = 1 from by omega]; rfl
    simp only [capOf, this, show (2 * m + 1) / 2 = m from by omega]
theorem capOf_I {a : Addr} {m k : Nat} (hk : k < 65536) : capOf (some a) (codeI m k) = (m, false) := by
  have h1 : Nat.beq (codeI m k % 2) 1 = false := by unfold codeI; rw [show 2 * (m * 65536 + k) % 2 = 0 from by omega]; rfl
  have h2 : codeI m k / 2 / 65536 = m := by unfold codeI; omega
  simp only [capOf, h1, h2]
theorem eszOf_I {m k : Nat} (hk : k < 65536) : eszOf (codeI m k) = k := by unfold eszOf codeI; omega

theorem w_grown {cs : List Value} {len k : Nat} {old : List Nat} (hk : k < 65536) (hc : cs.all oneCell = true) (h : Q (.slice (some ⟨n, 0, none⟩) len (codeI len k)) (n + 1) (H.set n (.cells cs true old k))) : Wp c (grown cs len k old) n H Q := by
  have : Nat.blt k 65536 = true := by rw [Nat.blt_eq]; exact hk
  unfold grown
  rw [this]
  exact Wp.bnd (Wp.newRow hc (Wp.ret (by rw [mkSlice_eq]; exact h)))

/-- Growing a slice. -/
theorem w_append {k bs m p code : Nat} {zs l new : List Value} {a : Option Addr} {cl : Call} {t u : TypeId} {ts : List TypeId} {xv : Value} {c0 : Cx} (hc : cl.callee = .builtin .append) (ha : cl.args.toList.map ρ = [.slice a m code, xv]) (ht : cl.argTypes.toList = t :: u :: ts)
    (hu : (∃ e, P.underlying u = some (.slice e)) ∨ P.underlying u = some .string) (he : eltAll P t = some (k, bs, zs)) (hs : strK k xv = true) (hl : lenV xv = some p) (hr : RdS c n H k xv p new) (hg : Grow c0 n H k a m code l)
    (hRa : ∀ b, blkIs a b → b < c.n0 → c.R b ∨ c.W b) (hWa : ∀ b, blkIs a b → code % 2 = 0 → b < c.n0 → c.W b)
    (hlo : l.all oneCell = true) (hno : new.all oneCell = true) (hk : 1 ≤ k) (hk2 : k < 65536) (hbs : 1 ≤ bs) (hsz : (m + p) * bs ≤ 2 ^ 40) (hnl : new.length = p * k)
    (h : ∀ a' code' n' H', n ≤ n' → (∀ b, b < n → ¬ blkIs a b → H'.get b = H.get b) → Grow c0 n' H' k a' (m + p) code' (l ++ new) → ((a' = a ∧ p = 0 ∧ H' = H ∧ n' = n ∧ code' = code) ∨ (n' = n + 1 ∧ a' = some ⟨n, 0, none⟩ ∧ code' = codeI (m + p) k ∧ ∃ olds, H'.get n = some (.cells (l ++ new) true olds k) ∧ ∀ o ∈ olds, o < n ∧ H'.get o ≠ none ∧ (o < c0.n0 → c0.W o))) → Q (.slice a' (m + p) code') n' H')
    (hn0 : c0.n0 ≤ n) : Wp c (opV P call ρ (.call cl)) n H Q := by
  obtain ⟨e, info, z, hue, hi, hzz, rfl, rfl, rfl⟩ := eltAll_some he
  unfold opV
  have hop : evOp P ρ (.call cl) = asVal (appendV P t (.slice a m code) xv) := by
    simp only [evOp, opCall, hc, opBuiltin, ha, ht, builtinV, appB]
    rcases hu with ⟨e', hu⟩ | hu <;> simp only [hu]
  rw [hop]
  refine Wp.bnd (Wp.bnd ?_)
  simp only [appendV, hue, hl, hi, hzz, hs]
  refine Wp.bnd (w_rdSlice hr ?_)
  unfold appRow
  have hcap : (capOf a code).1 = m := by
    cases hg with
    | nil => rfl
    | full h1 h2 h3 h4 => rw [capOf_ex]
    | void => exact congrArg Prod.fst (capOf_ex (a := some voidA) (m := 0))
    | own h1 h2 h3 h4 h5 h6 => rw [capOf_I h5]
  by_cases hp : p = 0
  · subst hp
    obtain rfl : new = [] := by
      cases new with
      | nil => rfl
      | cons x l => simp at hnl
    cases hcp : capOf a code with
    | mk c1 ex =>
      rw [hcp] at hcap
      simp only at hcap
      subst hcap
      have : Nat.ble (c1 + 0) c1 = true := Nat.ble_eq_true_of_le (by omega)
      simp only [this, appIn]
      refine Wp.ret (Wp.ret (Wp.ret ?_))
      have := h a code n H (Nat.le_refl _) (fun _ _ _ => rfl) (by simpa using hg) (.inl ⟨rfl, rfl, rfl, rfl, rfl⟩)
      simpa using this
  · cases hcp : capOf a code with
    | mk c1 ex =>
      rw [hcp] at hcap
      simp only at hcap
      subst hcap
      have b0 : Nat.ble (c1 + p) c1 = false := by
        cases hb : Nat.ble (c1 + p) c1 with
        | true => have := Nat.le_of_ble_eq_true hb; omega
        | false => rfl
      have b1 : Nat.ble ((c1 + p) * info.bytes) (2 ^ 40) = true := Nat.ble_eq_true_of_le hsz
      have b2 : Nat.ble 1 info.bytes = true := Nat.ble_eq_true_of_le hbs
      have b3 : Nat.ble 1 info.size = true := Nat.ble_eq_true_of_le hk
      simp only [b0, b1, b2, b3, Bool.and_true]
      have hll : (l ++ new).all oneCell = true := by rw [List.all_append, hlo, hno]; rfl
      have fin : ∀ (H1 : Tr AObj) (olds : List Nat), (∀ b, b < n → ¬ blkIs a b → H1.get b = H.get b) → (l ++ new).length = (c1 + p) * info.size → (∀ o ∈ olds, o < n ∧ H1.get o ≠ none ∧ (o < c0.n0 → c0.W o)) →
          Wp c (grown (l ++ new) (c1 + p) info.size olds) n H1 fun a n' H' => Wp c (M.ret (Res.val a)) n' H' fun a n' H' => Wp c (valOf call a) n' H' Q := by
        intro H1 olds hf hlen holds
        refine w_grown hk2 hll (Wp.ret (Wp.ret ?_))
        refine h _ _ _ _ (Nat.le_succ _) (fun b hb hnb => by rw [Tr.get_set_ne _ _ (by omega)]; exact hf b hb hnb) ?_ (.inr ⟨rfl, rfl, rfl, olds, Tr.get_set_eq _ _ _, fun o ho => ?_⟩)
        rotate_left
        · obtain ⟨q1, q2, q3⟩ := holds o ho
          exact ⟨q1, by rw [Tr.get_set_ne _ _ (by omega)]; exact q2, q3⟩
        refine .own (Nat.lt_succ_self _) (fun hb => by omega) (Tr.get_set_eq _ _ _) hlen hk2 (fun o ho => ?_)
        obtain ⟨q1, q2, q3⟩ := holds o ho
        exact ⟨by omega, by omega, by rw [Tr.get_set_ne _ _ (by omega)]; exact q2, q3⟩
      cases hg with
      | nil =>
        cases hcp
        refine Wp.bnd (w_rdSlice .nil ?_)
        exact fin H [] (fun _ _ _ => rfl) (by simp [hnl]) (by simp)
      | full h1 h2 h3 h4 =>
        rw [capOf_ex] at hcp
        cases hcp
        refine Wp.bnd (w_rdSlice (.row h1 (hRa _ rfl) h3 h4) ?_)
        refine fin H [] (fun _ _ _ => rfl) ?_ (by simp)
        rw [List.length_append, hnl, rowOf_length h4, Nat.add_mul]
      | void =>
        have h9 := hcp.symm.trans (capOf_ex (a := some voidA) (m := 0))
        cases h9
        refine Wp.bnd (w_rdSlice .void ?_)
        exact fin H [] (fun _ _ _ => rfl) (by simp [hnl]) (by simp)
      | own h1 h2 h3 h4 h5 h6 =>
        rename_i b olds
        rw [capOf_I h5] at hcp
        cases hcp
        have hrow : rowOf l 0 l.length = some l := by
          have : takeO l.length l = some l := by rw [takeO_some _ _ (Nat.le_refl _)]; simp
          simp [rowOf, dropO, this]
        rw [h4] at hrow
        refine Wp.bnd (w_rdSlice (.row h1 (hRa _ rfl) h3 hrow) ?_)
        have e1 : ∀ q, Nat.beq (eszOf (codeI q info.size)) info.size = true := fun q => by rw [eszOf_I h5]; exact Nat.beq_refl _
        simp only [appOut, e1]
        refine Wp.bnd ?_
        have e2 : Nat.beq info.size info.size = true := Nat.beq_refl _
        have e3 : Nat.beq l.length (0 + l.length) = true := by rw [Nat.zero_add]; exact Nat.beq_refl _
        rw [h4] at e3
        refine Wp.touchW (a := olds) (o' := .cells l false olds info.size) h1 h3 (by simp only [h4, e2, e3, Bool.and_true]) (hWa _ rfl (by unfold codeI; omega)) ?_
        refine fin _ _ (fun b' hb' hnb => Tr.get_set_ne _ _ (fun e => hnb (by subst e; rfl))) ?_ (fun o ho => ?_)
        · rw [List.length_append, hnl, h4, Nat.add_mul]
        · rcases List.mem_cons.1 ho with rfl | ho
          · exact ⟨h1, by rw [Tr.get_set_eq]; simp, h2⟩
          · obtain ⟨q1, q2, q3, q4⟩ := h6 o ho
            exact ⟨q1, by rw [Tr.get_set_ne _ _ q2]; exact q3, q4⟩

/-- A call. -/
theorem w_call {cl : Call} {f : Operand} {fid : FuncId} {first cap : Array Value} {args args' : List Value} (hc : cl.callee = .value f) (hf : ρ f = .func (.func fid) first cap) (ha : cl.args.toList.map ρ = args) (he : first.toList ++ args ++ cap.toList = args')
    (hspec : Wp c (call fid args' none) n H fun o n' H' => ∃ v, o = .ret v false ∧ Q v n' H') : Wp c (opV P call ρ (.call cl)) n H Q := by
  unfold opV
  simp only [evOp, opCall, hc, hf, ha, callee, entered, he]
  refine Wp.bnd (Wp.ret (Wp.bnd (hspec.mono fun o n' H' ho => ?_)))
  obtain ⟨v, rfl, hq⟩ := ho
  exact Wp.ret hq
end
/-- New memory, from the bound lo on: a slice that holds l. -/
inductive New (lo n : Nat) (H : Tr AObj) (k : Nat) : Option Addr → Nat → Nat → List Value → Prop where
  | nil {code : Nat} : New lo n H k none 0 code []
  | void : New lo n H k (some voidA) 0 1 []
  | full {b i m : Nat} {l cs : List Value} {old : List Nat} {esz : Nat} : lo ≤ b → b < n → H.get b = some (.cells cs true old esz) → rowOf cs i (m * k) = some l →
      (∀ o ∈ old, lo ≤ o ∧ o < n ∧ o ≠ b ∧ H.get o ≠ none) → New lo n H k (some ⟨b, i, none⟩) m (2 * m + 1) l
  | own {b m : Nat} {l : List Value} {old : List Nat} : lo ≤ b → b < n → H.get b = some (.cells l true old k) → l.length = m * k → k < 65536 →
      (∀ o ∈ old, lo ≤ o ∧ o < n ∧ o ≠ b ∧ H.get o ≠ none) → New lo n H k (some ⟨b, 0, none⟩) m (codeI m k) l

theorem New.grow {lo n : Nat} {H : Tr AObj} {k m code : Nat} {a : Option Addr} {l : List Value} {c : Cx} (h : New lo n H k a m code l) (hc : c.n0 ≤ lo) : Grow c n H k a m code l := by
  cases h with
  | nil => exact .nil
  | void => exact .void
  | full h1 h2 h3 h4 h5 => exact .full h2 (fun h => by omega) h3 h4
  | own h1 h2 h3 h4 h5 h6 => exact .own h2 (fun h => by omega) h3 h4 h5 (fun o ho => let ⟨q1, q2, q3, q4⟩ := h6 o ho; ⟨q2, q3, q4, fun h => by omega⟩)
end Go.Shade

/- The logic over functions and over single operations in regions. Written by wip/gen_we.py. -/
namespace Go.Shade
set_option linter.unusedVariables false

/-- The results of a function. -/
def GoV (P : Program) (c : Cx) (res : List ResultVar) (E : Env) (n : Nat) (H : Tr AObj) (Q : List Value → Nat → Tr AObj → Prop) : Prop := ∀ T, Agree E [] T → Wp c (evResults P T res) n H Q
theorem gov_nil {P : Program} {c : Cx} {E : Env} {n : Nat} {H : Tr AObj} {Q : List Value → Nat → Tr AObj → Prop} (h : Q [] n H) : GoV P c [] E n H Q := fun _ _ => Wp.ret h
theorem gov_tmp {P : Program} {c : Cx} {E : Env} {n : Nat} {H : Tr AObj} {Q : List Value → Nat → Tr AObj → Prop} {t : Nat} {l : List ResultVar} {v : Value} (ht : Env.get E t = some v) (h : GoV P c l E n H fun vs n' H' => Q (v :: vs) n' H') : GoV P c (.tmp t :: l) E n H Q := by
  intro T ha
  have e : tmpOf T t = v := by simp [tmpOf, ha.e _ _ ht]
  simp only [evResults, e]
  exact Wp.bnd ((h T ha).mono fun vs n' H' q => Wp.ret q)
theorem gov_cell {P : Program} {c : Cx} {E : Env} {n : Nat} {H : Tr AObj} {Q : List Value → Nat → Tr AObj → Prop} {a t b i : Nat} {l : List ResultVar} {v : Value} {cs : List Value} {rw : Bool} {old : List Nat} {esz : Nat} (ha : Env.get E a = some (.pointer (some ⟨b, i, none⟩)))
    (ht : isAgg' P t = some false) (hb : b < n) (hg : H.get b = some (.cells cs rw old esz)) (hv : nth cs i = some v) (hR : b < c.n0 → c.R b ∨ c.W b)
    (h : GoV P c l E n H fun vs n' H' => Q (v :: vs) n' H') : GoV P c (.cell a t :: l) E n H Q := by
  intro T hA
  have e : tmpOf T a = .pointer (some ⟨b, i, none⟩) := by simp [tmpOf, hA.e _ _ ha]
  simp only [evResults, e, addrOf, loadV, ht]
  exact Wp.bnd (Wp.rdCell hb hg hv hR (Wp.bnd ((h T hA).mono fun vs n' H' q => Wp.ret q)))
theorem gov_cellA {P : Program} {c : Cx} {E : Env} {n : Nat} {H : Tr AObj} {Q : List Value → Nat → Tr AObj → Prop} {a t b i k : Nat} {l : List ResultVar} {cs r : List Value} {rw : Bool} {old : List Nat} {esz : Nat} (ha : Env.get E a = some (.pointer (some ⟨b, i, none⟩)))
    (ht : isAgg' P t = some true) (hk : sizeOf' P t = some k) (hb : b < n) (hg : H.get b = some (.cells cs rw old esz)) (hv : rowOf cs i k = some r) (hR : b < c.n0 → c.R b ∨ c.W b)
    (h : GoV P c l E n H fun vs n' H' => Q (.agg r.toArray :: vs) n' H') : GoV P c (.cell a t :: l) E n H Q := by
  intro T hA
  have e : tmpOf T a = .pointer (some ⟨b, i, none⟩) := by simp [tmpOf, hA.e _ _ ha]
  simp only [evResults, e, addrOf, loadV, ht, hk]
  exact Wp.bnd (Wp.bnd (Wp.rdRow hb hg hv hR (Wp.ret (Wp.bnd ((h T hA).mono fun vs n' H' q => Wp.ret q)))))

/-- A function, called. -/
def FnOK (P : Program) (lf k : Nat) (f : FuncId) (args : List Value) (c : Cx) (H : Tr AObj) (Post : Value → Nat → Tr AObj → Prop) : Prop :=
  ∀ d, k ≤ d → Wp c (evF P lf d f args none) c.n0 H fun o n' H' => ∃ v, o = .ret v false ∧ Post v n' H'

def argE : List Value → Nat → Env
  | [], _ => []
  | v :: l, i => (i, v) :: argE l (i + 1)
theorem argE_agree : ∀ (l : List Value) (i : Nat) (T : Tr Value), (∀ t v, Env.get (argE l i) t = some v → (tmpsOf l i T).get t = some v)
  | [], _, _ => fun t v e => by simp [argE, Env.get] at e
  | x :: l, i, T => by
    have key : ∀ (l : List Value) (j : Nat) (T : Tr Value) (t : Nat), t < j → (tmpsOf l j T).get t = T.get t := by
      intro l
      induction l with
      | nil => intro j T t _; rfl
      | cons y l ih => intro j T t ht; simp only [tmpsOf]; rw [ih _ _ _ (by omega), Tr.get_set_ne _ _ (by omega)]
    intro t v e
    simp only [argE, Env.get] at e
    cases hb : Nat.beq i t with
    | true =>
      rw [hb] at e; cases e
      have := Nat.eq_of_beq_eq_true hb
      subst this
      simp only [tmpsOf]
      rw [key l (i + 1) _ i (by omega), Tr.get_set_eq]
    | false =>
      rw [hb] at e
      simp only [tmpsOf]
      exact argE_agree l (i + 1) _ t v e

def fnQ (P : Program) (call : CallSem) (c : Cx) (res : List ResultVar) (Post : Value → Nat → Tr AObj → Prop) : Ran → Nat → Tr AObj → Prop :=
  fun r n H => Wp c (leave P call res r) n H fun o n' H' => ∃ v, o = .ret v false ∧ Post v n' H'

theorem fn_enter {P : Program} {lf k : Nat} {f : FuncId} {fn : Func} {code : Code} {args : List Value} {c : Cx} {H : Tr AObj} {Post : Value → Nat → Tr AObj → Prop} (hf : P.funcs[f]? = some fn) (hb : fn.body = some code)
    (h : ∀ d, k ≤ d → GoC ⟨P, evF P lf d, lf, c, fn.ntmps, fnQ P (evF P lf d) c fn.results.toList Post⟩ code (argE args 0) c.n0 H []) : FnOK P lf (k + 1) f args c H Post := by
  intro d hd
  obtain ⟨d, rfl⟩ : ∃ d', d = d' + 1 := ⟨d - 1, by omega⟩
  simp only [evF, hf, enterF, hb]
  refine Wp.bnd (h d (by omega) _ ⟨_, rfl, ⟨fun t v e => argE_agree args 0 .nil t v e, fun t r v e => by simp [GE.get] at e⟩⟩)

theorem FnOK.weaken {P : Program} {lf k k' : Nat} {f : FuncId} {args : List Value} {c : Cx} {H : Tr AObj} {Post Post' : Value → Nat → Tr AObj → Prop} (h : FnOK P lf k f args c H Post) (hk : k ≤ k') (hp : ∀ v n' H', Post v n' H' → Post' v n' H') : FnOK P lf k' f args c H Post' :=
  fun d hd => (h d (by omega)).mono fun o n' H' ⟨v, e, q⟩ => ⟨v, e, hp _ _ _ q⟩

section
variable {P : Program} {call : CallSem} {lf nt : Nat} {c : Cx} {res : List ResultVar} {Post : Value → Nat → Tr AObj → Prop} {E : Env} {n : Nat} {H : Tr AObj} {K : List Kf}
theorem go_result (h : GoV P c res E n H fun vs n' H' => Post (tupled vs) n' H') : GoR ⟨P, call, lf, c, nt, fnQ P call c res Post⟩ E n H K := by
  refine gor fun fr hf => ?_
  obtain ⟨T, rfl, ha⟩ := hf
  show Wp c (leave P call res _) n H _
  simp only [leave, evUnwind]
  exact Wp.bnd ((h T ha).mono fun vs n' H' q => Wp.ret ⟨_, rfl, q⟩)
theorem go_resultN (h : GoV P c res E n H fun vs n' H' => Post (tupled vs) n' H') : GoN ⟨P, call, lf, c, nt, fnQ P call c res Post⟩ E n H [] := by
  refine gon_nil fun fr hf => ?_
  obtain ⟨T, rfl, ha⟩ := hf
  show Wp c (leave P call res _) n H _
  simp only [leave, evUnwind]
  exact Wp.bnd ((h T ha).mono fun vs n' H' q => Wp.ret ⟨_, rfl, q⟩)
end

section
variable {S : Sg} {E : Env} {G : List GE} {n : Nat} {H : Tr AObj} {K : List Kf} {ops rest : List Oper} {o : Oper} {d : Nat} {x y : Operand} {t : TypeId} {v : Value} {n0 : Nat} {is : List Info}
theorem go_load {b i : Nat} {cs : List Value} {rw : Bool} {old : List Nat} {esz : Nat} (hd : o.dst = some d) (hg : o.guard = none) (hn : Nat.blt d S.nt = true) (hG : GE.get G d = none) (ho : o.op = .load t x) (hx : lookF E G x = some (true, .pointer (some ⟨b, i, none⟩))) (ht : isAgg' S.P t = some false) (hb : b < n) (hh : H.get b = some (.cells cs rw old esz)) (hv : nth cs i = some v) (hR : b < S.c.n0 → S.c.R b ∨ S.c.W b)
    (h : GoO S none ops rest ((d, v) :: E) G n H K) : GoO S none ops (o :: rest) E G n H K :=
  go_step (fun b' => b' = b) (fun _ => False) hd hg hn hG (fun b' h1 h2 => by subst h2; exact hR h1) (fun _ _ h => h.elim) fun ρ hρ => by rw [ho]; exact w_load (hρ.u hx) ht hb hh hv (fun _ => .inl rfl) h
theorem go_loadD {b i : Nat} {cs : List Value} {rw : Bool} {old : List Nat} {esz : Nat} (hd : o.dst = some d) (hg : o.guard = none) (hn : Nat.blt d S.nt = true) (hG : GE.get G d = none) (ho : o.op = .load t x) (hx : lookF E G x = some (true, .pointer (some ⟨b, i, none⟩))) (ht : isAgg' S.P t = some false) (hb : b < n) (hh : H.get b = some (.cells cs rw old esz)) (hv : nth cs i = some v) (hR : b < S.c.n0 → S.c.R b ∨ S.c.W b)
    (h : GoO S (some (n0, ⟨n, n, fun b' => b' = b, fun _ => False⟩ :: is)) ops rest ((d, v) :: E) G n H K) : GoO S (some (n0, is)) ops (o :: rest) E G n H K :=
  go_step (fun b' => b' = b) (fun _ => False) hd hg hn hG (fun b' h1 h2 => by subst h2; exact hR h1) (fun _ _ h => h.elim) fun ρ hρ => by rw [ho]; exact w_load (hρ.u hx) ht hb hh hv (fun _ => .inl rfl) h
theorem go_loadA {b i k : Nat} {cs l : List Value} {rw : Bool} {old : List Nat} {esz : Nat} (hd : o.dst = some d) (hg : o.guard = none) (hn : Nat.blt d S.nt = true) (hG : GE.get G d = none) (ho : o.op = .load t x) (hx : lookF E G x = some (true, .pointer (some ⟨b, i, none⟩))) (ht : isAgg' S.P t = some true) (hk : sizeOf' S.P t = some k) (hb : b < n) (hh : H.get b = some (.cells cs rw old esz)) (hv : rowOf cs i k = some l) (hR : b < S.c.n0 → S.c.R b ∨ S.c.W b)
    (h : GoO S none ops rest ((d, .agg l.toArray) :: E) G n H K) : GoO S none ops (o :: rest) E G n H K :=
  go_step (fun b' => b' = b) (fun _ => False) hd hg hn hG (fun b' h1 h2 => by subst h2; exact hR h1) (fun _ _ h => h.elim) fun ρ hρ => by rw [ho]; exact w_loadA (hρ.u hx) ht hk hb hh hv (fun _ => .inl rfl) h
theorem go_loadAD {b i k : Nat} {cs l : List Value} {rw : Bool} {old : List Nat} {esz : Nat} (hd : o.dst = some d) (hg : o.guard = none) (hn : Nat.blt d S.nt = true) (hG : GE.get G d = none) (ho : o.op = .load t x) (hx : lookF E G x = some (true, .pointer (some ⟨b, i, none⟩))) (ht : isAgg' S.P t = some true) (hk : sizeOf' S.P t = some k) (hb : b < n) (hh : H.get b = some (.cells cs rw old esz)) (hv : rowOf cs i k = some l) (hR : b < S.c.n0 → S.c.R b ∨ S.c.W b)
    (h : GoO S (some (n0, ⟨n, n, fun b' => b' = b, fun _ => False⟩ :: is)) ops rest ((d, .agg l.toArray) :: E) G n H K) : GoO S (some (n0, is)) ops (o :: rest) E G n H K :=
  go_step (fun b' => b' = b) (fun _ => False) hd hg hn hG (fun b' h1 h2 => by subst h2; exact hR h1) (fun _ _ h => h.elim) fun ρ hρ => by rw [ho]; exact w_loadA (hρ.u hx) ht hk hb hh hv (fun _ => .inl rfl) h
theorem go_store {b i k : Nat} {cs cs' : List Value} {esz : Nat} (hd : o.dst = none) (hg : o.guard = none) (ho : o.op = .store t x y) (hx : lookF E G x = some (true, .pointer (some ⟨b, i, none⟩))) (hy : lookF E G y = some (true, v)) (hk : sizeOf' S.P t = some k) (hl : (cellsOf v).length = k) (hb : b < n) (hh : H.get b = some (.cells cs true [] esz)) (hp : putAt i (cellsOf v) cs = some cs') (hv : (cellsOf v).all oneCell = true) (hW : b < S.c.n0 → S.c.W b)
    (h : GoO S none ops rest E G n (H.set b (.cells cs' true [] esz)) K) : GoO S none ops (o :: rest) E G n H K :=
  go_step0 (fun _ => False) (fun b' => b' = b) hd hg (fun _ _ h => h.elim) (fun b' h1 h2 => by subst h2; exact hW h1) fun ρ hρ => by rw [ho]; exact w_store (hρ.u hx) (hρ.u hy) hk hl hb hh (by simp) hp hv (fun _ => rfl) h
theorem go_storeD {b i k : Nat} {cs cs' : List Value} {esz : Nat} (hd : o.dst = none) (hg : o.guard = none) (ho : o.op = .store t x y) (hx : lookF E G x = some (true, .pointer (some ⟨b, i, none⟩))) (hy : lookF E G y = some (true, v)) (hk : sizeOf' S.P t = some k) (hl : (cellsOf v).length = k) (hb : b < n) (hh : H.get b = some (.cells cs true [] esz)) (hp : putAt i (cellsOf v) cs = some cs') (hv : (cellsOf v).all oneCell = true) (hW : b < S.c.n0 → S.c.W b)
    (h : GoO S (some (n0, ⟨n, n, fun _ => False, fun b' => b' = b⟩ :: is)) ops rest E G n (H.set b (.cells cs' true [] esz)) K) : GoO S (some (n0, is)) ops (o :: rest) E G n H K :=
  go_step0 (fun _ => False) (fun b' => b' = b) hd hg (fun _ _ h => h.elim) (fun b' h1 h2 => by subst h2; exact hW h1) fun ρ hρ => by rw [ho]; exact w_store (hρ.u hx) (hρ.u hy) hk hl hb hh (by simp) hp hv (fun _ => rfl) h
theorem go_storeK {b i k : Nat} {cs cs' : List Value} {esz : Nat} {old : List Nat} (hd : o.dst = none) (hg : o.guard = none) (ho : o.op = .store t x y) (hx : lookF E G x = some (true, .pointer (some ⟨b, i, none⟩))) (hy : lookF E G y = some (true, v)) (hk : sizeOf' S.P t = some k) (hl : (cellsOf v).length = k) (hb : b < n) (hh : H.get b = some (.cells cs true old esz)) (hold : ∀ o ∈ old, o < n ∧ o ≠ b ∧ H.get o ≠ none ∧ (o < S.c.n0 → S.c.W o)) (hp : putAt i (cellsOf v) cs = some cs') (hv : (cellsOf v).all oneCell = true) (hW : b < S.c.n0 → S.c.W b)
    (h : GoO S none ops rest E G n ((killed H old).set b (.cells cs' true [] esz)) K) : GoO S none ops (o :: rest) E G n H K :=
  go_step0 (fun _ => False) (fun b' => b' = b ∨ b' ∈ old) hd hg (fun _ _ h => h.elim) (fun b' h1 h2 => by rcases h2 with rfl | h2; exact hW h1; exact (hold _ h2).2.2.2 h1) fun ρ hρ => by rw [ho]; exact w_store (hρ.u hx) (hρ.u hy) hk hl hb hh (fun o ho => let ⟨a, b, c, d⟩ := hold o ho; ⟨a, b, c, fun _ => .inr ho⟩) hp hv (fun _ => .inl rfl) h
theorem go_storeKD {b i k : Nat} {cs cs' : List Value} {esz : Nat} {old : List Nat} (hd : o.dst = none) (hg : o.guard = none) (ho : o.op = .store t x y) (hx : lookF E G x = some (true, .pointer (some ⟨b, i, none⟩))) (hy : lookF E G y = some (true, v)) (hk : sizeOf' S.P t = some k) (hl : (cellsOf v).length = k) (hb : b < n) (hh : H.get b = some (.cells cs true old esz)) (hold : ∀ o ∈ old, o < n ∧ o ≠ b ∧ H.get o ≠ none ∧ (o < S.c.n0 → S.c.W o)) (hp : putAt i (cellsOf v) cs = some cs') (hv : (cellsOf v).all oneCell = true) (hW : b < S.c.n0 → S.c.W b)
    (h : GoO S (some (n0, ⟨n, n, fun _ => False, fun b' => b' = b ∨ b' ∈ old⟩ :: is)) ops rest E G n ((killed H old).set b (.cells cs' true [] esz)) K) : GoO S (some (n0, is)) ops (o :: rest) E G n H K :=
  go_step0 (fun _ => False) (fun b' => b' = b ∨ b' ∈ old) hd hg (fun _ _ h => h.elim) (fun b' h1 h2 => by rcases h2 with rfl | h2; exact hW h1; exact (hold _ h2).2.2.2 h1) fun ρ hρ => by rw [ho]; exact w_store (hρ.u hx) (hρ.u hy) hk hl hb hh (fun o ho => let ⟨a, b, c, d⟩ := hold o ho; ⟨a, b, c, fun _ => .inr ho⟩) hp hv (fun _ => .inl rfl) h
theorem go_alloc {z : Value} (hd : o.dst = some d) (hg : o.guard = none) (hn : Nat.blt d S.nt = true) (hG : GE.get G d = none) (ho : o.op = .alloc t) (hz : zero' S.P t = some z) (hc : (cellsOf z).all oneCell = true)
    (h : GoO S none ops rest ((d, .pointer (some ⟨n, 0, none⟩)) :: E) G (n + 1) (H.set n (.cells (cellsOf z) true [] 0)) K) : GoO S none ops (o :: rest) E G n H K :=
  go_step (fun _ => False) (fun _ => False) hd hg hn hG (fun _ _ h => h.elim) (fun _ _ h => h.elim) fun ρ hρ => by rw [ho]; exact w_alloc hz hc h
theorem go_allocD {z : Value} (hd : o.dst = some d) (hg : o.guard = none) (hn : Nat.blt d S.nt = true) (hG : GE.get G d = none) (ho : o.op = .alloc t) (hz : zero' S.P t = some z) (hc : (cellsOf z).all oneCell = true)
    (h : GoO S (some (n0, ⟨n, (n + 1), fun _ => False, fun _ => False⟩ :: is)) ops rest ((d, .pointer (some ⟨n, 0, none⟩)) :: E) G (n + 1) (H.set n (.cells (cellsOf z) true [] 0)) K) : GoO S (some (n0, is)) ops (o :: rest) E G n H K :=
  go_step (fun _ => False) (fun _ => False) hd hg hn hG (fun _ _ h => h.elim) (fun _ _ h => h.elim) fun ρ hρ => by rw [ho]; exact w_alloc hz hc h
theorem go_box  (hd : o.dst = some d) (hg : o.guard = none) (hn : Nat.blt d S.nt = true) (hG : GE.get G d = none) (ho : o.op = .box t x) (hx : lookF E G x = some (true, v)) (hc : (cellsOf v).all oneCell = true)
    (h : GoO S none ops rest ((d, .pointer (some ⟨n, 0, none⟩)) :: E) G (n + 1) (H.set n (.cells (cellsOf v) true [] 0)) K) : GoO S none ops (o :: rest) E G n H K :=
  go_step (fun _ => False) (fun _ => False) hd hg hn hG (fun _ _ h => h.elim) (fun _ _ h => h.elim) fun ρ hρ => by rw [ho]; exact w_box (hρ.u hx) hc h
theorem go_boxD  (hd : o.dst = some d) (hg : o.guard = none) (hn : Nat.blt d S.nt = true) (hG : GE.get G d = none) (ho : o.op = .box t x) (hx : lookF E G x = some (true, v)) (hc : (cellsOf v).all oneCell = true)
    (h : GoO S (some (n0, ⟨n, (n + 1), fun _ => False, fun _ => False⟩ :: is)) ops rest ((d, .pointer (some ⟨n, 0, none⟩)) :: E) G (n + 1) (H.set n (.cells (cellsOf v) true [] 0)) K) : GoO S (some (n0, is)) ops (o :: rest) E G n H K :=
  go_step (fun _ => False) (fun _ => False) hd hg hn hG (fun _ _ h => h.elim) (fun _ _ h => h.elim) fun ρ hρ => by rw [ho]; exact w_box (hρ.u hx) hc h
theorem go_makeSlice {k bs l m : Nat} {zs : List Value} {kk kk' : IntKind} {zl zm : Int} (hd : o.dst = some d) (hg : o.guard = none) (hn : Nat.blt d S.nt = true) (hG : GE.get G d = none) (ho : o.op = .makeSlice t x y) (hx : lookF E G x = some (true, .int kk zl)) (hy : lookF E G y = some (true, .int kk' zm)) (hl : zl = (l : Int)) (hm : zm = (m : Int)) (he : eltAll S.P t = some (k, bs, zs)) (hlm : l ≤ m) (hmb : m * bs ≤ 2 ^ 40) (hmm : m ≤ 2 ^ 40) (hz : zs.all oneCell = true)
    (h : GoO S none ops rest ((d, .slice (some ⟨n, 0, none⟩) l (2 * m + 1)) :: E) G (n + 1) (H.set n (.cells (zeros zs m) true [] k)) K) : GoO S none ops (o :: rest) E G n H K :=
  go_step (fun _ => False) (fun _ => False) hd hg hn hG (fun _ _ h => h.elim) (fun _ _ h => h.elim) fun ρ hρ => by rw [ho]; exact w_makeSlice (hρ.u hx) (hρ.u hy) hl hm he hlm hmb hmm hz h
theorem go_makeSliceD {k bs l m : Nat} {zs : List Value} {kk kk' : IntKind} {zl zm : Int} (hd : o.dst = some d) (hg : o.guard = none) (hn : Nat.blt d S.nt = true) (hG : GE.get G d = none) (ho : o.op = .makeSlice t x y) (hx : lookF E G x = some (true, .int kk zl)) (hy : lookF E G y = some (true, .int kk' zm)) (hl : zl = (l : Int)) (hm : zm = (m : Int)) (he : eltAll S.P t = some (k, bs, zs)) (hlm : l ≤ m) (hmb : m * bs ≤ 2 ^ 40) (hmm : m ≤ 2 ^ 40) (hz : zs.all oneCell = true)
    (h : GoO S (some (n0, ⟨n, (n + 1), fun _ => False, fun _ => False⟩ :: is)) ops rest ((d, .slice (some ⟨n, 0, none⟩) l (2 * m + 1)) :: E) G (n + 1) (H.set n (.cells (zeros zs m) true [] k)) K) : GoO S (some (n0, is)) ops (o :: rest) E G n H K :=
  go_step (fun _ => False) (fun _ => False) hd hg hn hG (fun _ _ h => h.elim) (fun _ _ h => h.elim) fun ρ hρ => by rw [ho]; exact w_makeSlice (hρ.u hx) (hρ.u hy) hl hm he hlm hmb hmm hz h
theorem go_buildSlice {k bs len : Nat} {parts : Array (Nat × Operand)} {ps : List (Nat × Value)} {zs cs : List Value} (hd : o.dst = some d) (hg : o.guard = none) (hn : Nat.blt d S.nt = true) (hG : GE.get G d = none) (ho : o.op = .buildSlice t len parts) (he : eltAll S.P t = some (k, bs, zs)) (hp : lookP E G parts.toList = some ps) (hl : Nat.ble (len * k) (2 ^ 24) = true) (hf : fillA (fun i => some (i * k, k)) (zeros zs len) ps = some cs) (hc : cs.all oneCell = true)
    (h : GoO S none ops rest ((d, .slice (some ⟨n, 0, none⟩) len (2 * len + 1)) :: E) G (n + 1) (H.set n (.cells cs true [] 0)) K) : GoO S none ops (o :: rest) E G n H K :=
  go_step (fun _ => False) (fun _ => False) hd hg hn hG (fun _ _ h => h.elim) (fun _ _ h => h.elim) fun ρ hρ => by rw [ho]; exact w_buildSlice he (hρ.p hp) hl hf hc h
theorem go_buildSliceD {k bs len : Nat} {parts : Array (Nat × Operand)} {ps : List (Nat × Value)} {zs cs : List Value} (hd : o.dst = some d) (hg : o.guard = none) (hn : Nat.blt d S.nt = true) (hG : GE.get G d = none) (ho : o.op = .buildSlice t len parts) (he : eltAll S.P t = some (k, bs, zs)) (hp : lookP E G parts.toList = some ps) (hl : Nat.ble (len * k) (2 ^ 24) = true) (hf : fillA (fun i => some (i * k, k)) (zeros zs len) ps = some cs) (hc : cs.all oneCell = true)
    (h : GoO S (some (n0, ⟨n, (n + 1), fun _ => False, fun _ => False⟩ :: is)) ops rest ((d, .slice (some ⟨n, 0, none⟩) len (2 * len + 1)) :: E) G (n + 1) (H.set n (.cells cs true [] 0)) K) : GoO S (some (n0, is)) ops (o :: rest) E G n H K :=
  go_step (fun _ => False) (fun _ => False) hd hg hn hG (fun _ _ h => h.elim) (fun _ _ h => h.elim) fun ρ hρ => by rw [ho]; exact w_buildSlice he (hρ.p hp) hl hf hc h
theorem go_append {k bs m p code : Nat} {zs l new : List Value} {a : Option Addr} {cl : Call} {u : TypeId} {ts : List TypeId} {xv : Value} (hd : o.dst = some d) (hg : o.guard = none) (hn : Nat.blt d S.nt = true) (hG : GE.get G d = none)
    (ho : o.op = .call cl) (hc : cl.callee = .builtin .append) (ha : lookL E G cl.args.toList = some [.slice a m code, xv]) (ht : cl.argTypes.toList = t :: u :: ts)
    (hu : (∃ e, S.P.underlying u = some (.slice e)) ∨ S.P.underlying u = some .string) (he : eltAll S.P t = some (k, bs, zs)) (hs : strK k xv = true) (hl : lenV xv = some p) (hr : RdS S.c n H k xv p new) (hgr : Grow S.c n H k a m code l)
    (hlo : l.all oneCell = true) (hno : new.all oneCell = true) (hk : 1 ≤ k) (hk2 : k < 65536) (hbs : 1 ≤ bs) (hsz : (m + p) * bs ≤ 2 ^ 40) (hnl : new.length = p * k) (hn0 : S.c.n0 ≤ n)
    (h : ∀ a' code' n' H', n ≤ n' → (∀ b, b < n → ¬ blkIs a b → H'.get b = H.get b) → Grow S.c n' H' k a' (m + p) code' (l ++ new) → ((a' = a ∧ p = 0 ∧ H' = H ∧ n' = n ∧ code' = code) ∨ (n' = n + 1 ∧ a' = some ⟨n, 0, none⟩ ∧ code' = codeI (m + p) k ∧ ∃ olds, H'.get n = some (.cells (l ++ new) true olds k) ∧ ∀ o ∈ olds, o < n ∧ H'.get o ≠ none ∧ (o < S.c.n0 → S.c.W o))) →
      GoO S none ops rest ((d, .slice a' (m + p) code') :: E) G n' H' K) : GoO S none ops (o :: rest) E G n H K := by
  have hR1 : ∀ b, b < S.c.n0 → (blkIs a b ∨ vblk xv b) → S.c.R b ∨ S.c.W b := by
    rintro b hb (h1 | h1)
    · cases hgr with
      | nil => exact h1.elim
      | full q1 q2 q3 q4 => cases h1; exact q2 hb
      | void => exact h1.elim
      | own q1 q2 q3 q4 q5 q6 => cases h1; exact .inr (q2 hb)
    · cases hr with
      | row q1 q2 q3 q4 => cases h1; exact q2 hb
      | nil => exact h1.elim
      | void => exact h1.elim
      | str q => exact h1.elim
  have hW1 : ∀ b, b < S.c.n0 → (blkIs a b ∧ code % 2 = 0) → S.c.W b := by
    rintro b hb ⟨h1, h2⟩
    cases hgr with
    | nil => exact h1.elim
    | full q1 q2 q3 q4 => omega
    | void => exact h1.elim
    | own q1 q2 q3 q4 q5 q6 => cases h1; exact q2 hb
  have hr' : RdS ⟨n, fun b => blkIs a b ∨ vblk xv b, fun b => blkIs a b ∧ code % 2 = 0⟩ n H k xv p new := by
    cases hr with
    | row q1 q2 q3 q4 => exact .row q1 (fun _ => .inl (.inr rfl)) q3 q4
    | nil => exact .nil
    | void => exact .void
    | str q => exact .str q
  refine go_step (fun b => blkIs a b ∨ vblk xv b) (fun b => blkIs a b ∧ code % 2 = 0) hd hg hn hG hR1 hW1 fun ρ hρ => ?_
  rw [ho]
  exact w_append (c := ⟨n, fun b => blkIs a b ∨ vblk xv b, fun b => blkIs a b ∧ code % 2 = 0⟩) (c0 := S.c) hc (hρ.l ha) ht hu he hs hl hr' hgr (fun b h1 _ => .inl (.inl h1)) (fun b h1 h2 _ => ⟨h1, h2⟩) hlo hno hk hk2 hbs hsz hnl h hn0
theorem go_appendD {k bs m p code : Nat} {zs l new : List Value} {a : Option Addr} {cl : Call} {u : TypeId} {ts : List TypeId} {xv : Value} (hd : o.dst = some d) (hg : o.guard = none) (hn : Nat.blt d S.nt = true) (hG : GE.get G d = none)
    (ho : o.op = .call cl) (hc : cl.callee = .builtin .append) (ha : lookL E G cl.args.toList = some [.slice a m code, xv]) (ht : cl.argTypes.toList = t :: u :: ts)
    (hu : (∃ e, S.P.underlying u = some (.slice e)) ∨ S.P.underlying u = some .string) (he : eltAll S.P t = some (k, bs, zs)) (hs : strK k xv = true) (hl : lenV xv = some p) (hr : RdS S.c n H k xv p new) (hgr : Grow S.c n H k a m code l)
    (hlo : l.all oneCell = true) (hno : new.all oneCell = true) (hk : 1 ≤ k) (hk2 : k < 65536) (hbs : 1 ≤ bs) (hsz : (m + p) * bs ≤ 2 ^ 40) (hnl : new.length = p * k) (hn0 : S.c.n0 ≤ n)
    (h : ∀ a' code' n' H', n ≤ n' → (∀ b, b < n → ¬ blkIs a b → H'.get b = H.get b) → Grow S.c n' H' k a' (m + p) code' (l ++ new) → ((a' = a ∧ p = 0 ∧ H' = H ∧ n' = n ∧ code' = code) ∨ (n' = n + 1 ∧ a' = some ⟨n, 0, none⟩ ∧ code' = codeI (m + p) k ∧ ∃ olds, H'.get n = some (.cells (l ++ new) true olds k) ∧ ∀ o ∈ olds, o < n ∧ H'.get o ≠ none ∧ (o < S.c.n0 → S.c.W o))) →
      GoO S (some (n0, ⟨n, n', fun b => blkIs a b ∨ vblk xv b, fun b => blkIs a b ∧ code % 2 = 0⟩ :: is)) ops rest ((d, .slice a' (m + p) code') :: E) G n' H' K) : GoO S (some (n0, is)) ops (o :: rest) E G n H K := by
  have hR1 : ∀ b, b < S.c.n0 → (blkIs a b ∨ vblk xv b) → S.c.R b ∨ S.c.W b := by
    rintro b hb (h1 | h1)
    · cases hgr with
      | nil => exact h1.elim
      | full q1 q2 q3 q4 => cases h1; exact q2 hb
      | void => exact h1.elim
      | own q1 q2 q3 q4 q5 q6 => cases h1; exact .inr (q2 hb)
    · cases hr with
      | row q1 q2 q3 q4 => cases h1; exact q2 hb
      | nil => exact h1.elim
      | void => exact h1.elim
      | str q => exact h1.elim
  have hW1 : ∀ b, b < S.c.n0 → (blkIs a b ∧ code % 2 = 0) → S.c.W b := by
    rintro b hb ⟨h1, h2⟩
    cases hgr with
    | nil => exact h1.elim
    | full q1 q2 q3 q4 => omega
    | void => exact h1.elim
    | own q1 q2 q3 q4 q5 q6 => cases h1; exact q2 hb
  have hr' : RdS ⟨n, fun b => blkIs a b ∨ vblk xv b, fun b => blkIs a b ∧ code % 2 = 0⟩ n H k xv p new := by
    cases hr with
    | row q1 q2 q3 q4 => exact .row q1 (fun _ => .inl (.inr rfl)) q3 q4
    | nil => exact .nil
    | void => exact .void
    | str q => exact .str q
  refine go_step (fun b => blkIs a b ∨ vblk xv b) (fun b => blkIs a b ∧ code % 2 = 0) hd hg hn hG hR1 hW1 fun ρ hρ => ?_
  rw [ho]
  exact w_append (c := ⟨n, fun b => blkIs a b ∨ vblk xv b, fun b => blkIs a b ∧ code % 2 = 0⟩) (c0 := S.c) hc (hρ.l ha) ht hu he hs hl hr' hgr (fun b h1 _ => .inl (.inl h1)) (fun b h1 h2 _ => ⟨h1, h2⟩) hlo hno hk hk2 hbs hsz hnl h hn0
theorem go_appendN {k bs m p code lo : Nat} {zs l new : List Value} {a : Option Addr} {cl : Call} {u : TypeId} {ts : List TypeId} {xv : Value} (hd : o.dst = some d) (hg : o.guard = none) (hn : Nat.blt d S.nt = true) (hG : GE.get G d = none)
    (ho : o.op = .call cl) (hc : cl.callee = .builtin .append) (ha : lookL E G cl.args.toList = some [.slice a m code, xv]) (ht : cl.argTypes.toList = t :: u :: ts)
    (hu : (∃ e, S.P.underlying u = some (.slice e)) ∨ S.P.underlying u = some .string) (he : eltAll S.P t = some (k, bs, zs)) (hs : strK k xv = true) (hl : lenV xv = some p) (hr : RdS S.c n H k xv p new) (hgr : New lo n H k a m code l)
    (hlo : l.all oneCell = true) (hno : new.all oneCell = true) (hk : 1 ≤ k) (hk2 : k < 65536) (hbs : 1 ≤ bs) (hsz : (m + p) * bs ≤ 2 ^ 40) (hnl : new.length = p * k) (hn0 : lo ≤ n) (hcl : S.c.n0 ≤ lo)
    (h : ∀ a' code' n' H', n ≤ n' → (∀ b, b < n → ¬ blkIs a b → H'.get b = H.get b) → New lo n' H' k a' (m + p) code' (l ++ new) → (∀ b, blkIs a' b → b = n ∨ blkIs a b) →
      GoO S none ops rest ((d, .slice a' (m + p) code') :: E) G n' H' K) : GoO S none ops (o :: rest) E G n H K := by
  have hgr' : Grow ⟨lo, fun _ => False, fun _ => False⟩ n H k a m code l := hgr.grow (Nat.le_refl _)
  have hR1 : ∀ b, b < S.c.n0 → (blkIs a b ∨ vblk xv b) → S.c.R b ∨ S.c.W b := by
    rintro b hb (h1 | h1)
    · cases hgr with
      | nil => exact h1.elim
      | full q1 q2 q3 q4 => cases h1; omega
      | void => exact h1.elim
      | own q1 q2 q3 q4 q5 q6 => cases h1; omega
    · cases hr with
      | row q1 q2 q3 q4 => cases h1; exact q2 hb
      | nil => exact h1.elim
      | void => exact h1.elim
      | str q => exact h1.elim
  have hW1 : ∀ b, b < S.c.n0 → (blkIs a b ∧ code % 2 = 0) → S.c.W b := by
    rintro b hb ⟨h1, h2⟩
    cases hgr with
    | nil => exact h1.elim
    | full q1 q2 q3 q4 => omega
    | void => exact h1.elim
    | own q1 q2 q3 q4 q5 q6 => cases h1; omega
  have hr' : RdS ⟨n, fun b => blkIs a b ∨ vblk xv b, fun b => blkIs a b ∧ code % 2 = 0⟩ n H k xv p new := by
    cases hr with
    | row q1 q2 q3 q4 => exact .row q1 (fun _ => .inl (.inr rfl)) q3 q4
    | nil => exact .nil
    | void => exact .void
    | str q => exact .str q
  refine go_step (fun b => blkIs a b ∨ vblk xv b) (fun b => blkIs a b ∧ code % 2 = 0) hd hg hn hG hR1 hW1 fun ρ hρ => ?_
  rw [ho]
  refine w_append (c := ⟨n, fun b => blkIs a b ∨ vblk xv b, fun b => blkIs a b ∧ code % 2 = 0⟩) (c0 := ⟨lo, fun _ => False, fun _ => False⟩) hc (hρ.l ha) ht hu he hs hl hr' hgr' (fun b h1 _ => .inl (.inl h1)) (fun b h1 h2 _ => ⟨h1, h2⟩) hlo hno hk hk2 hbs hsz hnl ?_ hn0
  rintro a' code' n' H' hle hfr hg2 (⟨rfl, rfl, rfl, rfl, rfl⟩ | ⟨rfl, rfl, rfl, olds, q1, q2⟩)
  · have : new = [] := by
      cases new with
      | nil => rfl
      | cons x l => simp at hnl
    subst this
    exact h _ _ _ _ hle hfr (by simpa using hgr) (fun b hb => .inr hb)
  · refine h _ _ _ _ hle hfr (.own (by omega) (Nat.lt_succ_self _) q1 ?_ hk2 (fun o ho => ?_)) (fun b hb => .inl hb)
    · have : l.length = m * k := by
        cases hgr with
        | nil => simp
        | full r1 r2 r3 r4 r5 => exact rowOf_length r4
        | void => simp
        | own r1 r2 r3 r4 r5 r6 => exact r4
      rw [List.length_append, this, hnl, Nat.add_mul]
    · obtain ⟨r1, r2, r3⟩ := q2 o ho
      exact ⟨Nat.le_of_not_lt (fun h => r3 h), by omega, by omega, r2⟩
theorem go_appendND {k bs m p code lo : Nat} {zs l new : List Value} {a : Option Addr} {cl : Call} {u : TypeId} {ts : List TypeId} {xv : Value} (hd : o.dst = some d) (hg : o.guard = none) (hn : Nat.blt d S.nt = true) (hG : GE.get G d = none)
    (ho : o.op = .call cl) (hc : cl.callee = .builtin .append) (ha : lookL E G cl.args.toList = some [.slice a m code, xv]) (ht : cl.argTypes.toList = t :: u :: ts)
    (hu : (∃ e, S.P.underlying u = some (.slice e)) ∨ S.P.underlying u = some .string) (he : eltAll S.P t = some (k, bs, zs)) (hs : strK k xv = true) (hl : lenV xv = some p) (hr : RdS S.c n H k xv p new) (hgr : New lo n H k a m code l)
    (hlo : l.all oneCell = true) (hno : new.all oneCell = true) (hk : 1 ≤ k) (hk2 : k < 65536) (hbs : 1 ≤ bs) (hsz : (m + p) * bs ≤ 2 ^ 40) (hnl : new.length = p * k) (hn0 : lo ≤ n) (hcl : S.c.n0 ≤ lo)
    (h : ∀ a' code' n' H', n ≤ n' → (∀ b, b < n → ¬ blkIs a b → H'.get b = H.get b) → New lo n' H' k a' (m + p) code' (l ++ new) → (∀ b, blkIs a' b → b = n ∨ blkIs a b) →
      GoO S (some (n0, ⟨n, n', fun b => blkIs a b ∨ vblk xv b, fun b => blkIs a b ∧ code % 2 = 0⟩ :: is)) ops rest ((d, .slice a' (m + p) code') :: E) G n' H' K) : GoO S (some (n0, is)) ops (o :: rest) E G n H K := by
  have hgr' : Grow ⟨lo, fun _ => False, fun _ => False⟩ n H k a m code l := hgr.grow (Nat.le_refl _)
  have hR1 : ∀ b, b < S.c.n0 → (blkIs a b ∨ vblk xv b) → S.c.R b ∨ S.c.W b := by
    rintro b hb (h1 | h1)
    · cases hgr with
      | nil => exact h1.elim
      | full q1 q2 q3 q4 => cases h1; omega
      | void => exact h1.elim
      | own q1 q2 q3 q4 q5 q6 => cases h1; omega
    · cases hr with
      | row q1 q2 q3 q4 => cases h1; exact q2 hb
      | nil => exact h1.elim
      | void => exact h1.elim
      | str q => exact h1.elim
  have hW1 : ∀ b, b < S.c.n0 → (blkIs a b ∧ code % 2 = 0) → S.c.W b := by
    rintro b hb ⟨h1, h2⟩
    cases hgr with
    | nil => exact h1.elim
    | full q1 q2 q3 q4 => omega
    | void => exact h1.elim
    | own q1 q2 q3 q4 q5 q6 => cases h1; omega
  have hr' : RdS ⟨n, fun b => blkIs a b ∨ vblk xv b, fun b => blkIs a b ∧ code % 2 = 0⟩ n H k xv p new := by
    cases hr with
    | row q1 q2 q3 q4 => exact .row q1 (fun _ => .inl (.inr rfl)) q3 q4
    | nil => exact .nil
    | void => exact .void
    | str q => exact .str q
  refine go_step (fun b => blkIs a b ∨ vblk xv b) (fun b => blkIs a b ∧ code % 2 = 0) hd hg hn hG hR1 hW1 fun ρ hρ => ?_
  rw [ho]
  refine w_append (c := ⟨n, fun b => blkIs a b ∨ vblk xv b, fun b => blkIs a b ∧ code % 2 = 0⟩) (c0 := ⟨lo, fun _ => False, fun _ => False⟩) hc (hρ.l ha) ht hu he hs hl hr' hgr' (fun b h1 _ => .inl (.inl h1)) (fun b h1 h2 _ => ⟨h1, h2⟩) hlo hno hk hk2 hbs hsz hnl ?_ hn0
  rintro a' code' n' H' hle hfr hg2 (⟨rfl, rfl, rfl, rfl, rfl⟩ | ⟨rfl, rfl, rfl, olds, q1, q2⟩)
  · have : new = [] := by
      cases new with
      | nil => rfl
      | cons x l => simp at hnl
    subst this
    exact h _ _ _ _ hle hfr (by simpa using hgr) (fun b hb => .inr hb)
  · refine h _ _ _ _ hle hfr (.own (by omega) (Nat.lt_succ_self _) q1 ?_ hk2 (fun o ho => ?_)) (fun b hb => .inl hb)
    · have : l.length = m * k := by
        cases hgr with
        | nil => simp
        | full r1 r2 r3 r4 r5 => exact rowOf_length r4
        | void => simp
        | own r1 r2 r3 r4 r5 r6 => exact r4
      rw [List.length_append, this, hnl, Nat.add_mul]
    · obtain ⟨r1, r2, r3⟩ := q2 o ho
      exact ⟨Nat.le_of_not_lt (fun h => r3 h), by omega, by omega, r2⟩
theorem go_call {cl : Call} {f : Operand} {fid : FuncId} {first cap : Array Value} {args args' : List Value} {Post : Value → Nat → Tr AObj → Prop} (R W : Nat → Prop) (hd : o.dst = some d) (hg : o.guard = none) (hn : Nat.blt d S.nt = true) (hG : GE.get G d = none)
    (ho : o.op = .call cl) (hc : cl.callee = .value f) (hf : lookF E G f = some (true, .func (.func fid) first cap)) (ha : lookL E G cl.args.toList = some args) (he : first.toList ++ args ++ cap.toList = args')
    (hspec : Wp ⟨n, R, W⟩ (S.call fid args' none) n H fun o n' H' => ∃ v, o = .ret v false ∧ Post v n' H')
    (hR : ∀ b, b < S.c.n0 → R b → S.c.R b ∨ S.c.W b) (hW : ∀ b, b < S.c.n0 → W b → S.c.W b)
    (h : ∀ v n' H', n ≤ n' → (∀ b, b < n → ¬ W b → H'.get b = H.get b) → Post v n' H' → GoO S none ops rest ((d, v) :: E) G n' H' K) : GoO S none ops (o :: rest) E G n H K := by
  refine go_step R W hd hg hn hG hR hW fun ρ hρ => ?_
  rw [ho]
  refine w_call hc (hρ.u hf) (hρ.l ha) he (Wp.frame (hspec.mono fun o n' H' ho hle hfr => ?_))
  obtain ⟨v, rfl, hp⟩ := ho
  exact ⟨v, rfl, h v n' H' hle hfr hp⟩
theorem go_call0 {cl : Call} {f : Operand} {fid : FuncId} {first cap : Array Value} {args args' : List Value} {Post : Value → Nat → Tr AObj → Prop} (R W : Nat → Prop) (hd : o.dst = none) (hg : o.guard = none)
    (ho : o.op = .call cl) (hc : cl.callee = .value f) (hf : lookF E G f = some (true, .func (.func fid) first cap)) (ha : lookL E G cl.args.toList = some args) (he : first.toList ++ args ++ cap.toList = args')
    (hspec : Wp ⟨n, R, W⟩ (S.call fid args' none) n H fun o n' H' => ∃ v, o = .ret v false ∧ Post v n' H')
    (hR : ∀ b, b < S.c.n0 → R b → S.c.R b ∨ S.c.W b) (hW : ∀ b, b < S.c.n0 → W b → S.c.W b)
    (h : ∀ v n' H', n ≤ n' → (∀ b, b < n → ¬ W b → H'.get b = H.get b) → Post v n' H' → GoO S none ops rest E G n' H' K) : GoO S none ops (o :: rest) E G n H K := by
  refine go_step0 R W hd hg hR hW fun ρ hρ => ?_
  rw [ho]
  refine w_call hc (hρ.u hf) (hρ.l ha) he (Wp.frame (hspec.mono fun o n' H' ho hle hfr => ?_))
  obtain ⟨v, rfl, hp⟩ := ho
  exact ⟨v, rfl, h v n' H' hle hfr hp⟩
theorem go_callD {cl : Call} {f : Operand} {fid : FuncId} {first cap : Array Value} {args args' : List Value} {Post : Value → Nat → Tr AObj → Prop} (R W : Nat → Prop) (hd : o.dst = some d) (hg : o.guard = none) (hn : Nat.blt d S.nt = true) (hG : GE.get G d = none)
    (ho : o.op = .call cl) (hc : cl.callee = .value f) (hf : lookF E G f = some (true, .func (.func fid) first cap)) (ha : lookL E G cl.args.toList = some args) (he : first.toList ++ args ++ cap.toList = args')
    (hspec : Wp ⟨n, R, W⟩ (S.call fid args' none) n H fun o n' H' => ∃ v, o = .ret v false ∧ Post v n' H')
    (hR : ∀ b, b < S.c.n0 → R b → S.c.R b ∨ S.c.W b) (hW : ∀ b, b < S.c.n0 → W b → S.c.W b)
    (h : ∀ v n' H', n ≤ n' → (∀ b, b < n → ¬ W b → H'.get b = H.get b) → Post v n' H' → GoO S (some (n0, ⟨n, n', R, W⟩ :: is)) ops rest ((d, v) :: E) G n' H' K) : GoO S (some (n0, is)) ops (o :: rest) E G n H K := by
  refine go_step R W hd hg hn hG hR hW fun ρ hρ => ?_
  rw [ho]
  refine w_call hc (hρ.u hf) (hρ.l ha) he (Wp.frame (hspec.mono fun o n' H' ho hle hfr => ?_))
  obtain ⟨v, rfl, hp⟩ := ho
  exact ⟨v, rfl, h v n' H' hle hfr hp⟩
theorem go_call0D {cl : Call} {f : Operand} {fid : FuncId} {first cap : Array Value} {args args' : List Value} {Post : Value → Nat → Tr AObj → Prop} (R W : Nat → Prop) (hd : o.dst = none) (hg : o.guard = none)
    (ho : o.op = .call cl) (hc : cl.callee = .value f) (hf : lookF E G f = some (true, .func (.func fid) first cap)) (ha : lookL E G cl.args.toList = some args) (he : first.toList ++ args ++ cap.toList = args')
    (hspec : Wp ⟨n, R, W⟩ (S.call fid args' none) n H fun o n' H' => ∃ v, o = .ret v false ∧ Post v n' H')
    (hR : ∀ b, b < S.c.n0 → R b → S.c.R b ∨ S.c.W b) (hW : ∀ b, b < S.c.n0 → W b → S.c.W b)
    (h : ∀ v n' H', n ≤ n' → (∀ b, b < n → ¬ W b → H'.get b = H.get b) → Post v n' H' → GoO S (some (n0, ⟨n, n', R, W⟩ :: is)) ops rest E G n' H' K) : GoO S (some (n0, is)) ops (o :: rest) E G n H K := by
  refine go_step0 R W hd hg hR hW fun ρ hρ => ?_
  rw [ho]
  refine w_call hc (hρ.u hf) (hρ.l ha) he (Wp.frame (hspec.mono fun o n' H' ho hle hfr => ?_))
  obtain ⟨v, rfl, hp⟩ := ho
  exact ⟨v, rfl, h v n' H' hle hfr hp⟩
end
end Go.Shade

/- The rules over single operations, by their kinds. Written by wip/shade/gen_wf.py. -/
namespace Go.Shade
set_option linter.unusedVariables false
theorem and_l {a b : Bool} (h : (a && b) = true) : a = true := by cases a <;> simp_all
theorem and_r {a b : Bool} (h : (a && b) = true) : b = true := by cases b <;> simp_all
theorem pick_r {r p w : Bool} (hr : r = true) (h : p = w) : (r && (p == w)) = true := by subst hr h; cases p <;> rfl
section
variable {S : Sg} {E : Env} {G : List GE} {n : Nat} {H : Tr AObj} {K : List Kf} {ops rest : List Oper} {o : Oper} {d : Nat} {x y z : Operand} {t s : TypeId} {u v w : Value} {n0 : Nat} {is : List Info}
theorem go_move  (hd : o.dst = some d) (hg : o.guard = none) (hn : Nat.blt d S.nt = true) (hG : GE.get G d = none) (ho : o.op = .move x) (h0 : lookF E G x = some (true, v)) 
    (h : GoO S none ops rest ((d, v) :: E) G n H K) : GoO S none ops (o :: rest) E G n H K :=
  go_val hd hg hn hG (fun ρ hρ => by rw [ho]; exact p_move (hρ.u h0)) h
theorem go_moveG  {j dj : Nat} {gw r p r0 : Bool} (hd : o.dst = some d) (hg : o.guard = some (j, gw)) (hj : dstOf ops j = some dj) (hl : lookF E G (.tmp dj) = some (r, .bool p)) (h0 : r0 = (r && (p == gw))) (hn : Nat.blt d S.nt = true) (hE : Env.get E d = none) (hG : GE.get G d = none) (ho : o.op = .move x) {rr0 : Bool} (lk0 : lookF E G x = some (rr0, v)) (i0 : r0 = true → rr0 = true) 
    (h : GoO S none ops rest E (⟨d, r0, v⟩ :: G) n H K) : GoO S none ops (o :: rest) E G n H K :=
  go_gstep (fun _ => False) hd hg hj hl h0 hn hE hG (fun _ _ h => h.elim) (fun hr ρ hρ => by rw [ho]; exact wp_val (p_move (hρ.g lk0 (i0 hr))) ⟨rfl, rfl, rfl⟩) h
theorem go_moveD  (hd : o.dst = some d) (hg : o.guard = none) (hn : Nat.blt d S.nt = true) (hG : GE.get G d = none) (ho : o.op = .move x) (h0 : lookF E G x = some (true, v)) 
    (h : GoO S (some (n0, ⟨n, n, fun _ => False, fun _ => False⟩ :: is)) ops rest ((d, v) :: E) G n H K) : GoO S (some (n0, is)) ops (o :: rest) E G n H K :=
  go_valD hd hg hn hG (fun ρ hρ => by rw [ho]; exact p_move (hρ.u h0)) h
theorem go_moveGD  {j dj : Nat} {gw r p r0 : Bool} (hd : o.dst = some d) (hg : o.guard = some (j, gw)) (hj : dstOf ops j = some dj) (hl : lookF E G (.tmp dj) = some (r, .bool p)) (h0 : r0 = (r && (p == gw))) (hn : Nat.blt d S.nt = true) (hE : Env.get E d = none) (hG : GE.get G d = none) (ho : o.op = .move x) {rr0 : Bool} (lk0 : lookF E G x = some (rr0, v)) (i0 : r0 = true → rr0 = true) 
    (h : GoO S (some (n0, ⟨n, n, fun _ => False, fun _ => False⟩ :: is)) ops rest E (⟨d, r0, v⟩ :: G) n H K) : GoO S (some (n0, is)) ops (o :: rest) E G n H K :=
  go_gstep (fun _ => False) hd hg hj hl h0 hn hE hG (fun _ _ h => h.elim) (fun hr ρ hρ => by rw [ho]; exact wp_val (p_move (hρ.g lk0 (i0 hr))) ⟨rfl, rfl, rfl⟩) h
theorem go_assign  (hd : o.dst = some d) (hg : o.guard = none) (hn : Nat.blt d S.nt = true) (hG : GE.get G d = none) (ho : o.op = .assign x) (h0 : lookF E G x = some (true, v)) 
    (h : GoO S none ops rest ((d, v) :: E) G n H K) : GoO S none ops (o :: rest) E G n H K :=
  go_val hd hg hn hG (fun ρ hρ => by rw [ho]; exact p_assign (hρ.u h0)) h
theorem go_assignG  {j dj : Nat} {gw r p r0 : Bool} (hd : o.dst = some d) (hg : o.guard = some (j, gw)) (hj : dstOf ops j = some dj) (hl : lookF E G (.tmp dj) = some (r, .bool p)) (h0 : r0 = (r && (p == gw))) (hn : Nat.blt d S.nt = true) (hE : Env.get E d = none) (hG : GE.get G d = none) (ho : o.op = .assign x) {rr0 : Bool} (lk0 : lookF E G x = some (rr0, v)) (i0 : r0 = true → rr0 = true) 
    (h : GoO S none ops rest E (⟨d, r0, v⟩ :: G) n H K) : GoO S none ops (o :: rest) E G n H K :=
  go_gstep (fun _ => False) hd hg hj hl h0 hn hE hG (fun _ _ h => h.elim) (fun hr ρ hρ => by rw [ho]; exact wp_val (p_assign (hρ.g lk0 (i0 hr))) ⟨rfl, rfl, rfl⟩) h
theorem go_assignD  (hd : o.dst = some d) (hg : o.guard = none) (hn : Nat.blt d S.nt = true) (hG : GE.get G d = none) (ho : o.op = .assign x) (h0 : lookF E G x = some (true, v)) 
    (h : GoO S (some (n0, ⟨n, n, fun _ => False, fun _ => False⟩ :: is)) ops rest ((d, v) :: E) G n H K) : GoO S (some (n0, is)) ops (o :: rest) E G n H K :=
  go_valD hd hg hn hG (fun ρ hρ => by rw [ho]; exact p_assign (hρ.u h0)) h
theorem go_assignGD  {j dj : Nat} {gw r p r0 : Bool} (hd : o.dst = some d) (hg : o.guard = some (j, gw)) (hj : dstOf ops j = some dj) (hl : lookF E G (.tmp dj) = some (r, .bool p)) (h0 : r0 = (r && (p == gw))) (hn : Nat.blt d S.nt = true) (hE : Env.get E d = none) (hG : GE.get G d = none) (ho : o.op = .assign x) {rr0 : Bool} (lk0 : lookF E G x = some (rr0, v)) (i0 : r0 = true → rr0 = true) 
    (h : GoO S (some (n0, ⟨n, n, fun _ => False, fun _ => False⟩ :: is)) ops rest E (⟨d, r0, v⟩ :: G) n H K) : GoO S (some (n0, is)) ops (o :: rest) E G n H K :=
  go_gstep (fun _ => False) hd hg hj hl h0 hn hE hG (fun _ _ h => h.elim) (fun hr ρ hρ => by rw [ho]; exact wp_val (p_assign (hρ.g lk0 (i0 hr))) ⟨rfl, rfl, rfl⟩) h
theorem go_bin {op : BinOp} {k : IntKind} {a b : Int} (hd : o.dst = some d) (hg : o.guard = none) (hn : Nat.blt d S.nt = true) (hG : GE.get G d = none) (ho : o.op = .binOp op t x y s) (h0 : lookF E G x = some (true, .int k a)) (h1 : lookF E G y = some (true, .int k b)) (hs : notShift op = true) (hv : intOp op k a b = some v)
    (h : GoO S none ops rest ((d, v) :: E) G n H K) : GoO S none ops (o :: rest) E G n H K :=
  go_val hd hg hn hG (fun ρ hρ => by rw [ho]; exact p_bin hs (hρ.u h0) (hρ.u h1) hv) h
theorem go_binG {op : BinOp} {k : IntKind} {a b : Int} {j dj : Nat} {gw r p r0 : Bool} (hd : o.dst = some d) (hg : o.guard = some (j, gw)) (hj : dstOf ops j = some dj) (hl : lookF E G (.tmp dj) = some (r, .bool p)) (h0 : r0 = (r && (p == gw))) (hn : Nat.blt d S.nt = true) (hE : Env.get E d = none) (hG : GE.get G d = none) (ho : o.op = .binOp op t x y s) {rr0 : Bool} (lk0 : lookF E G x = some (rr0, .int k a)) (i0 : r0 = true → rr0 = true) {rr1 : Bool} (lk1 : lookF E G y = some (rr1, .int k b)) (i1 : r0 = true → rr1 = true) (hs : notShift op = true) (hv : intOp op k a b = some v)
    (h : GoO S none ops rest E (⟨d, r0, v⟩ :: G) n H K) : GoO S none ops (o :: rest) E G n H K :=
  go_gstep (fun _ => False) hd hg hj hl h0 hn hE hG (fun _ _ h => h.elim) (fun hr ρ hρ => by rw [ho]; exact wp_val (p_bin hs (hρ.g lk0 (i0 hr)) (hρ.g lk1 (i1 hr)) hv) ⟨rfl, rfl, rfl⟩) h
theorem go_binD {op : BinOp} {k : IntKind} {a b : Int} (hd : o.dst = some d) (hg : o.guard = none) (hn : Nat.blt d S.nt = true) (hG : GE.get G d = none) (ho : o.op = .binOp op t x y s) (h0 : lookF E G x = some (true, .int k a)) (h1 : lookF E G y = some (true, .int k b)) (hs : notShift op = true) (hv : intOp op k a b = some v)
    (h : GoO S (some (n0, ⟨n, n, fun _ => False, fun _ => False⟩ :: is)) ops rest ((d, v) :: E) G n H K) : GoO S (some (n0, is)) ops (o :: rest) E G n H K :=
  go_valD hd hg hn hG (fun ρ hρ => by rw [ho]; exact p_bin hs (hρ.u h0) (hρ.u h1) hv) h
theorem go_binGD {op : BinOp} {k : IntKind} {a b : Int} {j dj : Nat} {gw r p r0 : Bool} (hd : o.dst = some d) (hg : o.guard = some (j, gw)) (hj : dstOf ops j = some dj) (hl : lookF E G (.tmp dj) = some (r, .bool p)) (h0 : r0 = (r && (p == gw))) (hn : Nat.blt d S.nt = true) (hE : Env.get E d = none) (hG : GE.get G d = none) (ho : o.op = .binOp op t x y s) {rr0 : Bool} (lk0 : lookF E G x = some (rr0, .int k a)) (i0 : r0 = true → rr0 = true) {rr1 : Bool} (lk1 : lookF E G y = some (rr1, .int k b)) (i1 : r0 = true → rr1 = true) (hs : notShift op = true) (hv : intOp op k a b = some v)
    (h : GoO S (some (n0, ⟨n, n, fun _ => False, fun _ => False⟩ :: is)) ops rest E (⟨d, r0, v⟩ :: G) n H K) : GoO S (some (n0, is)) ops (o :: rest) E G n H K :=
  go_gstep (fun _ => False) hd hg hj hl h0 hn hE hG (fun _ _ h => h.elim) (fun hr ρ hρ => by rw [ho]; exact wp_val (p_bin hs (hρ.g lk0 (i0 hr)) (hρ.g lk1 (i1 hr)) hv) ⟨rfl, rfl, rfl⟩) h
theorem go_shift {op : BinOp} {left : Bool} {k k' : IntKind} {a b : Int} (hd : o.dst = some d) (hg : o.guard = none) (hn : Nat.blt d S.nt = true) (hG : GE.get G d = none) (ho : o.op = .binOp op t x y s) (h0 : lookF E G x = some (true, .int k a)) (h1 : lookF E G y = some (true, .int k' b)) (hs : (op = .shl ∧ left = true) ∨ (op = .shr ∧ left = false)) (hv : shiftOp left k a b = some v)
    (h : GoO S none ops rest ((d, v) :: E) G n H K) : GoO S none ops (o :: rest) E G n H K :=
  go_val hd hg hn hG (fun ρ hρ => by rw [ho]; exact p_shift hs (hρ.u h0) (hρ.u h1) hv) h
theorem go_shiftG {op : BinOp} {left : Bool} {k k' : IntKind} {a b : Int} {j dj : Nat} {gw r p r0 : Bool} (hd : o.dst = some d) (hg : o.guard = some (j, gw)) (hj : dstOf ops j = some dj) (hl : lookF E G (.tmp dj) = some (r, .bool p)) (h0 : r0 = (r && (p == gw))) (hn : Nat.blt d S.nt = true) (hE : Env.get E d = none) (hG : GE.get G d = none) (ho : o.op = .binOp op t x y s) {rr0 : Bool} (lk0 : lookF E G x = some (rr0, .int k a)) (i0 : r0 = true → rr0 = true) {rr1 : Bool} (lk1 : lookF E G y = some (rr1, .int k' b)) (i1 : r0 = true → rr1 = true) (hs : (op = .shl ∧ left = true) ∨ (op = .shr ∧ left = false)) (hv : shiftOp left k a b = some v)
    (h : GoO S none ops rest E (⟨d, r0, v⟩ :: G) n H K) : GoO S none ops (o :: rest) E G n H K :=
  go_gstep (fun _ => False) hd hg hj hl h0 hn hE hG (fun _ _ h => h.elim) (fun hr ρ hρ => by rw [ho]; exact wp_val (p_shift hs (hρ.g lk0 (i0 hr)) (hρ.g lk1 (i1 hr)) hv) ⟨rfl, rfl, rfl⟩) h
theorem go_shiftD {op : BinOp} {left : Bool} {k k' : IntKind} {a b : Int} (hd : o.dst = some d) (hg : o.guard = none) (hn : Nat.blt d S.nt = true) (hG : GE.get G d = none) (ho : o.op = .binOp op t x y s) (h0 : lookF E G x = some (true, .int k a)) (h1 : lookF E G y = some (true, .int k' b)) (hs : (op = .shl ∧ left = true) ∨ (op = .shr ∧ left = false)) (hv : shiftOp left k a b = some v)
    (h : GoO S (some (n0, ⟨n, n, fun _ => False, fun _ => False⟩ :: is)) ops rest ((d, v) :: E) G n H K) : GoO S (some (n0, is)) ops (o :: rest) E G n H K :=
  go_valD hd hg hn hG (fun ρ hρ => by rw [ho]; exact p_shift hs (hρ.u h0) (hρ.u h1) hv) h
theorem go_shiftGD {op : BinOp} {left : Bool} {k k' : IntKind} {a b : Int} {j dj : Nat} {gw r p r0 : Bool} (hd : o.dst = some d) (hg : o.guard = some (j, gw)) (hj : dstOf ops j = some dj) (hl : lookF E G (.tmp dj) = some (r, .bool p)) (h0 : r0 = (r && (p == gw))) (hn : Nat.blt d S.nt = true) (hE : Env.get E d = none) (hG : GE.get G d = none) (ho : o.op = .binOp op t x y s) {rr0 : Bool} (lk0 : lookF E G x = some (rr0, .int k a)) (i0 : r0 = true → rr0 = true) {rr1 : Bool} (lk1 : lookF E G y = some (rr1, .int k' b)) (i1 : r0 = true → rr1 = true) (hs : (op = .shl ∧ left = true) ∨ (op = .shr ∧ left = false)) (hv : shiftOp left k a b = some v)
    (h : GoO S (some (n0, ⟨n, n, fun _ => False, fun _ => False⟩ :: is)) ops rest E (⟨d, r0, v⟩ :: G) n H K) : GoO S (some (n0, is)) ops (o :: rest) E G n H K :=
  go_gstep (fun _ => False) hd hg hj hl h0 hn hE hG (fun _ _ h => h.elim) (fun hr ρ hρ => by rw [ho]; exact wp_val (p_shift hs (hρ.g lk0 (i0 hr)) (hρ.g lk1 (i1 hr)) hv) ⟨rfl, rfl, rfl⟩) h
theorem go_not {p0 : Bool} (hd : o.dst = some d) (hg : o.guard = none) (hn : Nat.blt d S.nt = true) (hG : GE.get G d = none) (ho : o.op = .unOp .not t x) (h0 : lookF E G x = some (true, .bool p0)) 
    (h : GoO S none ops rest ((d, .bool (!p0)) :: E) G n H K) : GoO S none ops (o :: rest) E G n H K :=
  go_val hd hg hn hG (fun ρ hρ => by rw [ho]; exact p_not (hρ.u h0)) h
theorem go_notG {p0 : Bool} {j dj : Nat} {gw r p r0 : Bool} (hd : o.dst = some d) (hg : o.guard = some (j, gw)) (hj : dstOf ops j = some dj) (hl : lookF E G (.tmp dj) = some (r, .bool p)) (h0 : r0 = (r && (p == gw))) (hn : Nat.blt d S.nt = true) (hE : Env.get E d = none) (hG : GE.get G d = none) (ho : o.op = .unOp .not t x) {rr0 : Bool} (lk0 : lookF E G x = some (rr0, .bool p0)) (i0 : r0 = true → rr0 = true) 
    (h : GoO S none ops rest E (⟨d, r0, .bool (!p0)⟩ :: G) n H K) : GoO S none ops (o :: rest) E G n H K :=
  go_gstep (fun _ => False) hd hg hj hl h0 hn hE hG (fun _ _ h => h.elim) (fun hr ρ hρ => by rw [ho]; exact wp_val (p_not (hρ.g lk0 (i0 hr))) ⟨rfl, rfl, rfl⟩) h
theorem go_notD {p0 : Bool} (hd : o.dst = some d) (hg : o.guard = none) (hn : Nat.blt d S.nt = true) (hG : GE.get G d = none) (ho : o.op = .unOp .not t x) (h0 : lookF E G x = some (true, .bool p0)) 
    (h : GoO S (some (n0, ⟨n, n, fun _ => False, fun _ => False⟩ :: is)) ops rest ((d, .bool (!p0)) :: E) G n H K) : GoO S (some (n0, is)) ops (o :: rest) E G n H K :=
  go_valD hd hg hn hG (fun ρ hρ => by rw [ho]; exact p_not (hρ.u h0)) h
theorem go_notGD {p0 : Bool} {j dj : Nat} {gw r p r0 : Bool} (hd : o.dst = some d) (hg : o.guard = some (j, gw)) (hj : dstOf ops j = some dj) (hl : lookF E G (.tmp dj) = some (r, .bool p)) (h0 : r0 = (r && (p == gw))) (hn : Nat.blt d S.nt = true) (hE : Env.get E d = none) (hG : GE.get G d = none) (ho : o.op = .unOp .not t x) {rr0 : Bool} (lk0 : lookF E G x = some (rr0, .bool p0)) (i0 : r0 = true → rr0 = true) 
    (h : GoO S (some (n0, ⟨n, n, fun _ => False, fun _ => False⟩ :: is)) ops rest E (⟨d, r0, .bool (!p0)⟩ :: G) n H K) : GoO S (some (n0, is)) ops (o :: rest) E G n H K :=
  go_gstep (fun _ => False) hd hg hj hl h0 hn hE hG (fun _ _ h => h.elim) (fun hr ρ hρ => by rw [ho]; exact wp_val (p_not (hρ.g lk0 (i0 hr))) ⟨rfl, rfl, rfl⟩) h
theorem go_neg {k : IntKind} {a c : Int} (hd : o.dst = some d) (hg : o.guard = none) (hn : Nat.blt d S.nt = true) (hG : GE.get G d = none) (ho : o.op = .unOp .neg t x) (h0 : lookF E G x = some (true, .int k a)) (hv : k.wrap (0 - a) = c)
    (h : GoO S none ops rest ((d, .int k c) :: E) G n H K) : GoO S none ops (o :: rest) E G n H K :=
  go_val hd hg hn hG (fun ρ hρ => by rw [ho]; exact p_neg (hρ.u h0) hv) h
theorem go_negG {k : IntKind} {a c : Int} {j dj : Nat} {gw r p r0 : Bool} (hd : o.dst = some d) (hg : o.guard = some (j, gw)) (hj : dstOf ops j = some dj) (hl : lookF E G (.tmp dj) = some (r, .bool p)) (h0 : r0 = (r && (p == gw))) (hn : Nat.blt d S.nt = true) (hE : Env.get E d = none) (hG : GE.get G d = none) (ho : o.op = .unOp .neg t x) {rr0 : Bool} (lk0 : lookF E G x = some (rr0, .int k a)) (i0 : r0 = true → rr0 = true) (hv : k.wrap (0 - a) = c)
    (h : GoO S none ops rest E (⟨d, r0, .int k c⟩ :: G) n H K) : GoO S none ops (o :: rest) E G n H K :=
  go_gstep (fun _ => False) hd hg hj hl h0 hn hE hG (fun _ _ h => h.elim) (fun hr ρ hρ => by rw [ho]; exact wp_val (p_neg (hρ.g lk0 (i0 hr)) hv) ⟨rfl, rfl, rfl⟩) h
theorem go_negD {k : IntKind} {a c : Int} (hd : o.dst = some d) (hg : o.guard = none) (hn : Nat.blt d S.nt = true) (hG : GE.get G d = none) (ho : o.op = .unOp .neg t x) (h0 : lookF E G x = some (true, .int k a)) (hv : k.wrap (0 - a) = c)
    (h : GoO S (some (n0, ⟨n, n, fun _ => False, fun _ => False⟩ :: is)) ops rest ((d, .int k c) :: E) G n H K) : GoO S (some (n0, is)) ops (o :: rest) E G n H K :=
  go_valD hd hg hn hG (fun ρ hρ => by rw [ho]; exact p_neg (hρ.u h0) hv) h
theorem go_negGD {k : IntKind} {a c : Int} {j dj : Nat} {gw r p r0 : Bool} (hd : o.dst = some d) (hg : o.guard = some (j, gw)) (hj : dstOf ops j = some dj) (hl : lookF E G (.tmp dj) = some (r, .bool p)) (h0 : r0 = (r && (p == gw))) (hn : Nat.blt d S.nt = true) (hE : Env.get E d = none) (hG : GE.get G d = none) (ho : o.op = .unOp .neg t x) {rr0 : Bool} (lk0 : lookF E G x = some (rr0, .int k a)) (i0 : r0 = true → rr0 = true) (hv : k.wrap (0 - a) = c)
    (h : GoO S (some (n0, ⟨n, n, fun _ => False, fun _ => False⟩ :: is)) ops rest E (⟨d, r0, .int k c⟩ :: G) n H K) : GoO S (some (n0, is)) ops (o :: rest) E G n H K :=
  go_gstep (fun _ => False) hd hg hj hl h0 hn hE hG (fun _ _ h => h.elim) (fun hr ρ hρ => by rw [ho]; exact wp_val (p_neg (hρ.g lk0 (i0 hr)) hv) ⟨rfl, rfl, rfl⟩) h
theorem go_conv {k0 ks k : IntKind} {a c : Int} (hd : o.dst = some d) (hg : o.guard = none) (hn : Nat.blt d S.nt = true) (hG : GE.get G d = none) (ho : o.op = .convert s t x) (h0 : lookF E G x = some (true, .int k0 a)) (hs : S.P.underlying s = some (.int ks)) (ht : S.P.underlying t = some (.int k)) (hv : k.wrap a = c)
    (h : GoO S none ops rest ((d, .int k c) :: E) G n H K) : GoO S none ops (o :: rest) E G n H K :=
  go_val hd hg hn hG (fun ρ hρ => by rw [ho]; exact p_conv (hρ.u h0) hs ht hv) h
theorem go_convG {k0 ks k : IntKind} {a c : Int} {j dj : Nat} {gw r p r0 : Bool} (hd : o.dst = some d) (hg : o.guard = some (j, gw)) (hj : dstOf ops j = some dj) (hl : lookF E G (.tmp dj) = some (r, .bool p)) (h0 : r0 = (r && (p == gw))) (hn : Nat.blt d S.nt = true) (hE : Env.get E d = none) (hG : GE.get G d = none) (ho : o.op = .convert s t x) {rr0 : Bool} (lk0 : lookF E G x = some (rr0, .int k0 a)) (i0 : r0 = true → rr0 = true) (hs : S.P.underlying s = some (.int ks)) (ht : S.P.underlying t = some (.int k)) (hv : k.wrap a = c)
    (h : GoO S none ops rest E (⟨d, r0, .int k c⟩ :: G) n H K) : GoO S none ops (o :: rest) E G n H K :=
  go_gstep (fun _ => False) hd hg hj hl h0 hn hE hG (fun _ _ h => h.elim) (fun hr ρ hρ => by rw [ho]; exact wp_val (p_conv (hρ.g lk0 (i0 hr)) hs ht hv) ⟨rfl, rfl, rfl⟩) h
theorem go_convD {k0 ks k : IntKind} {a c : Int} (hd : o.dst = some d) (hg : o.guard = none) (hn : Nat.blt d S.nt = true) (hG : GE.get G d = none) (ho : o.op = .convert s t x) (h0 : lookF E G x = some (true, .int k0 a)) (hs : S.P.underlying s = some (.int ks)) (ht : S.P.underlying t = some (.int k)) (hv : k.wrap a = c)
    (h : GoO S (some (n0, ⟨n, n, fun _ => False, fun _ => False⟩ :: is)) ops rest ((d, .int k c) :: E) G n H K) : GoO S (some (n0, is)) ops (o :: rest) E G n H K :=
  go_valD hd hg hn hG (fun ρ hρ => by rw [ho]; exact p_conv (hρ.u h0) hs ht hv) h
theorem go_convGD {k0 ks k : IntKind} {a c : Int} {j dj : Nat} {gw r p r0 : Bool} (hd : o.dst = some d) (hg : o.guard = some (j, gw)) (hj : dstOf ops j = some dj) (hl : lookF E G (.tmp dj) = some (r, .bool p)) (h0 : r0 = (r && (p == gw))) (hn : Nat.blt d S.nt = true) (hE : Env.get E d = none) (hG : GE.get G d = none) (ho : o.op = .convert s t x) {rr0 : Bool} (lk0 : lookF E G x = some (rr0, .int k0 a)) (i0 : r0 = true → rr0 = true) (hs : S.P.underlying s = some (.int ks)) (ht : S.P.underlying t = some (.int k)) (hv : k.wrap a = c)
    (h : GoO S (some (n0, ⟨n, n, fun _ => False, fun _ => False⟩ :: is)) ops rest E (⟨d, r0, .int k c⟩ :: G) n H K) : GoO S (some (n0, is)) ops (o :: rest) E G n H K :=
  go_gstep (fun _ => False) hd hg hj hl h0 hn hE hG (fun _ _ h => h.elim) (fun hr ρ hρ => by rw [ho]; exact wp_val (p_conv (hρ.g lk0 (i0 hr)) hs ht hv) ⟨rfl, rfl, rfl⟩) h
theorem go_nilCheck {a : Addr} (hd : o.dst = some d) (hg : o.guard = none) (hn : Nat.blt d S.nt = true) (hG : GE.get G d = none) (ho : o.op = .nilCheck x) (h0 : lookF E G x = some (true, .pointer (some a))) 
    (h : GoO S none ops rest ((d, .pointer (some a)) :: E) G n H K) : GoO S none ops (o :: rest) E G n H K :=
  go_val hd hg hn hG (fun ρ hρ => by rw [ho]; exact p_nilCheck (hρ.u h0)) h
theorem go_nilCheckG {a : Addr} {j dj : Nat} {gw r p r0 : Bool} (hd : o.dst = some d) (hg : o.guard = some (j, gw)) (hj : dstOf ops j = some dj) (hl : lookF E G (.tmp dj) = some (r, .bool p)) (h0 : r0 = (r && (p == gw))) (hn : Nat.blt d S.nt = true) (hE : Env.get E d = none) (hG : GE.get G d = none) (ho : o.op = .nilCheck x) {rr0 : Bool} (lk0 : lookF E G x = some (rr0, .pointer (some a))) (i0 : r0 = true → rr0 = true) 
    (h : GoO S none ops rest E (⟨d, r0, .pointer (some a)⟩ :: G) n H K) : GoO S none ops (o :: rest) E G n H K :=
  go_gstep (fun _ => False) hd hg hj hl h0 hn hE hG (fun _ _ h => h.elim) (fun hr ρ hρ => by rw [ho]; exact wp_val (p_nilCheck (hρ.g lk0 (i0 hr))) ⟨rfl, rfl, rfl⟩) h
theorem go_nilCheckD {a : Addr} (hd : o.dst = some d) (hg : o.guard = none) (hn : Nat.blt d S.nt = true) (hG : GE.get G d = none) (ho : o.op = .nilCheck x) (h0 : lookF E G x = some (true, .pointer (some a))) 
    (h : GoO S (some (n0, ⟨n, n, fun _ => False, fun _ => False⟩ :: is)) ops rest ((d, .pointer (some a)) :: E) G n H K) : GoO S (some (n0, is)) ops (o :: rest) E G n H K :=
  go_valD hd hg hn hG (fun ρ hρ => by rw [ho]; exact p_nilCheck (hρ.u h0)) h
theorem go_nilCheckGD {a : Addr} {j dj : Nat} {gw r p r0 : Bool} (hd : o.dst = some d) (hg : o.guard = some (j, gw)) (hj : dstOf ops j = some dj) (hl : lookF E G (.tmp dj) = some (r, .bool p)) (h0 : r0 = (r && (p == gw))) (hn : Nat.blt d S.nt = true) (hE : Env.get E d = none) (hG : GE.get G d = none) (ho : o.op = .nilCheck x) {rr0 : Bool} (lk0 : lookF E G x = some (rr0, .pointer (some a))) (i0 : r0 = true → rr0 = true) 
    (h : GoO S (some (n0, ⟨n, n, fun _ => False, fun _ => False⟩ :: is)) ops rest E (⟨d, r0, .pointer (some a)⟩ :: G) n H K) : GoO S (some (n0, is)) ops (o :: rest) E G n H K :=
  go_gstep (fun _ => False) hd hg hj hl h0 hn hE hG (fun _ _ h => h.elim) (fun hr ρ hρ => by rw [ho]; exact wp_val (p_nilCheck (hρ.g lk0 (i0 hr))) ⟨rfl, rfl, rfl⟩) h
theorem go_fieldAddr {b i f off : Nat} (hd : o.dst = some d) (hg : o.guard = none) (hn : Nat.blt d S.nt = true) (hG : GE.get G d = none) (ho : o.op = .fieldAddr t x f) (h0 : lookF E G x = some (true, .pointer (some ⟨b, i, none⟩))) (hf : fieldOff S.P t f = some off)
    (h : GoO S none ops rest ((d, .pointer (some ⟨b, i + off, none⟩)) :: E) G n H K) : GoO S none ops (o :: rest) E G n H K :=
  go_val hd hg hn hG (fun ρ hρ => by rw [ho]; exact p_fieldAddr (hρ.u h0) hf) h
theorem go_fieldAddrG {b i f off : Nat} {j dj : Nat} {gw r p r0 : Bool} (hd : o.dst = some d) (hg : o.guard = some (j, gw)) (hj : dstOf ops j = some dj) (hl : lookF E G (.tmp dj) = some (r, .bool p)) (h0 : r0 = (r && (p == gw))) (hn : Nat.blt d S.nt = true) (hE : Env.get E d = none) (hG : GE.get G d = none) (ho : o.op = .fieldAddr t x f) {rr0 : Bool} (lk0 : lookF E G x = some (rr0, .pointer (some ⟨b, i, none⟩))) (i0 : r0 = true → rr0 = true) (hf : fieldOff S.P t f = some off)
    (h : GoO S none ops rest E (⟨d, r0, .pointer (some ⟨b, i + off, none⟩)⟩ :: G) n H K) : GoO S none ops (o :: rest) E G n H K :=
  go_gstep (fun _ => False) hd hg hj hl h0 hn hE hG (fun _ _ h => h.elim) (fun hr ρ hρ => by rw [ho]; exact wp_val (p_fieldAddr (hρ.g lk0 (i0 hr)) hf) ⟨rfl, rfl, rfl⟩) h
theorem go_fieldAddrD {b i f off : Nat} (hd : o.dst = some d) (hg : o.guard = none) (hn : Nat.blt d S.nt = true) (hG : GE.get G d = none) (ho : o.op = .fieldAddr t x f) (h0 : lookF E G x = some (true, .pointer (some ⟨b, i, none⟩))) (hf : fieldOff S.P t f = some off)
    (h : GoO S (some (n0, ⟨n, n, fun _ => False, fun _ => False⟩ :: is)) ops rest ((d, .pointer (some ⟨b, i + off, none⟩)) :: E) G n H K) : GoO S (some (n0, is)) ops (o :: rest) E G n H K :=
  go_valD hd hg hn hG (fun ρ hρ => by rw [ho]; exact p_fieldAddr (hρ.u h0) hf) h
theorem go_fieldAddrGD {b i f off : Nat} {j dj : Nat} {gw r p r0 : Bool} (hd : o.dst = some d) (hg : o.guard = some (j, gw)) (hj : dstOf ops j = some dj) (hl : lookF E G (.tmp dj) = some (r, .bool p)) (h0 : r0 = (r && (p == gw))) (hn : Nat.blt d S.nt = true) (hE : Env.get E d = none) (hG : GE.get G d = none) (ho : o.op = .fieldAddr t x f) {rr0 : Bool} (lk0 : lookF E G x = some (rr0, .pointer (some ⟨b, i, none⟩))) (i0 : r0 = true → rr0 = true) (hf : fieldOff S.P t f = some off)
    (h : GoO S (some (n0, ⟨n, n, fun _ => False, fun _ => False⟩ :: is)) ops rest E (⟨d, r0, .pointer (some ⟨b, i + off, none⟩)⟩ :: G) n H K) : GoO S (some (n0, is)) ops (o :: rest) E G n H K :=
  go_gstep (fun _ => False) hd hg hj hl h0 hn hE hG (fun _ _ h => h.elim) (fun hr ρ hρ => by rw [ho]; exact wp_val (p_fieldAddr (hρ.g lk0 (i0 hr)) hf) ⟨rfl, rfl, rfl⟩) h
theorem go_field {cs : Array Value} {f : Nat} {q : Nat × Option Nat} (hd : o.dst = some d) (hg : o.guard = none) (hn : Nat.blt d S.nt = true) (hG : GE.get G d = none) (ho : o.op = .field t x f) (h0 : lookF E G x = some (true, .agg cs)) (hf : fieldAt S.P t f = some q) (hv : partAt cs.toList q = some v)
    (h : GoO S none ops rest ((d, v) :: E) G n H K) : GoO S none ops (o :: rest) E G n H K :=
  go_val hd hg hn hG (fun ρ hρ => by rw [ho]; exact p_field (hρ.u h0) hf hv) h
theorem go_fieldG {cs : Array Value} {f : Nat} {q : Nat × Option Nat} {j dj : Nat} {gw r p r0 : Bool} (hd : o.dst = some d) (hg : o.guard = some (j, gw)) (hj : dstOf ops j = some dj) (hl : lookF E G (.tmp dj) = some (r, .bool p)) (h0 : r0 = (r && (p == gw))) (hn : Nat.blt d S.nt = true) (hE : Env.get E d = none) (hG : GE.get G d = none) (ho : o.op = .field t x f) {rr0 : Bool} (lk0 : lookF E G x = some (rr0, .agg cs)) (i0 : r0 = true → rr0 = true) (hf : fieldAt S.P t f = some q) (hv : partAt cs.toList q = some v)
    (h : GoO S none ops rest E (⟨d, r0, v⟩ :: G) n H K) : GoO S none ops (o :: rest) E G n H K :=
  go_gstep (fun _ => False) hd hg hj hl h0 hn hE hG (fun _ _ h => h.elim) (fun hr ρ hρ => by rw [ho]; exact wp_val (p_field (hρ.g lk0 (i0 hr)) hf hv) ⟨rfl, rfl, rfl⟩) h
theorem go_fieldD {cs : Array Value} {f : Nat} {q : Nat × Option Nat} (hd : o.dst = some d) (hg : o.guard = none) (hn : Nat.blt d S.nt = true) (hG : GE.get G d = none) (ho : o.op = .field t x f) (h0 : lookF E G x = some (true, .agg cs)) (hf : fieldAt S.P t f = some q) (hv : partAt cs.toList q = some v)
    (h : GoO S (some (n0, ⟨n, n, fun _ => False, fun _ => False⟩ :: is)) ops rest ((d, v) :: E) G n H K) : GoO S (some (n0, is)) ops (o :: rest) E G n H K :=
  go_valD hd hg hn hG (fun ρ hρ => by rw [ho]; exact p_field (hρ.u h0) hf hv) h
theorem go_fieldGD {cs : Array Value} {f : Nat} {q : Nat × Option Nat} {j dj : Nat} {gw r p r0 : Bool} (hd : o.dst = some d) (hg : o.guard = some (j, gw)) (hj : dstOf ops j = some dj) (hl : lookF E G (.tmp dj) = some (r, .bool p)) (h0 : r0 = (r && (p == gw))) (hn : Nat.blt d S.nt = true) (hE : Env.get E d = none) (hG : GE.get G d = none) (ho : o.op = .field t x f) {rr0 : Bool} (lk0 : lookF E G x = some (rr0, .agg cs)) (i0 : r0 = true → rr0 = true) (hf : fieldAt S.P t f = some q) (hv : partAt cs.toList q = some v)
    (h : GoO S (some (n0, ⟨n, n, fun _ => False, fun _ => False⟩ :: is)) ops rest E (⟨d, r0, v⟩ :: G) n H K) : GoO S (some (n0, is)) ops (o :: rest) E G n H K :=
  go_gstep (fun _ => False) hd hg hj hl h0 hn hE hG (fun _ _ h => h.elim) (fun hr ρ hρ => by rw [ho]; exact wp_val (p_field (hρ.g lk0 (i0 hr)) hf hv) ⟨rfl, rfl, rfl⟩) h
theorem go_indexAddr {kk : IntKind} {b i m code j k : Nat} {a : Option Addr} {zz : Int} (hd : o.dst = some d) (hg : o.guard = none) (hn : Nat.blt d S.nt = true) (hG : GE.get G d = none) (ho : o.op = .indexAddr t x y) (h0 : lookF E G x = some (true, .slice a m code)) (h1 : lookF E G y = some (true, .int kk zz)) (hk : eltK S.P t = some k) (ha : a = some ⟨b, i, none⟩) (hz : zz = (j : Int)) (hj : j < m)
    (h : GoO S none ops rest ((d, .pointer (some ⟨b, i + j * k, none⟩)) :: E) G n H K) : GoO S none ops (o :: rest) E G n H K :=
  go_val hd hg hn hG (fun ρ hρ => by rw [ho]; exact p_indexAddr (hρ.u h0) (hρ.u h1) hk ha hz hj) h
theorem go_indexAddrD {kk : IntKind} {b i m code j k : Nat} {a : Option Addr} {zz : Int} (hd : o.dst = some d) (hg : o.guard = none) (hn : Nat.blt d S.nt = true) (hG : GE.get G d = none) (ho : o.op = .indexAddr t x y) (h0 : lookF E G x = some (true, .slice a m code)) (h1 : lookF E G y = some (true, .int kk zz)) (hk : eltK S.P t = some k) (ha : a = some ⟨b, i, none⟩) (hz : zz = (j : Int)) (hj : j < m)
    (h : GoO S (some (n0, ⟨n, n, fun _ => False, fun _ => False⟩ :: is)) ops rest ((d, .pointer (some ⟨b, i + j * k, none⟩)) :: E) G n H K) : GoO S (some (n0, is)) ops (o :: rest) E G n H K :=
  go_valD hd hg hn hG (fun ρ hρ => by rw [ho]; exact p_indexAddr (hρ.u h0) (hρ.u h1) hk ha hz hj) h
theorem go_indexAddrA {kk : IntKind} {b i j k m : Nat} {zz : Int} (hd : o.dst = some d) (hg : o.guard = none) (hn : Nat.blt d S.nt = true) (hG : GE.get G d = none) (ho : o.op = .indexAddr t x y) (h0 : lookF E G x = some (true, .pointer (some ⟨b, i, none⟩))) (h1 : lookF E G y = some (true, .int kk zz)) (hk : arrK S.P t = some (m, k)) (hz : zz = (j : Int)) (hj : j < m)
    (h : GoO S none ops rest ((d, .pointer (some ⟨b, i + j * k, none⟩)) :: E) G n H K) : GoO S none ops (o :: rest) E G n H K :=
  go_val hd hg hn hG (fun ρ hρ => by rw [ho]; exact p_indexAddrA (hρ.u h0) (hρ.u h1) hk hz hj) h
theorem go_indexAddrAD {kk : IntKind} {b i j k m : Nat} {zz : Int} (hd : o.dst = some d) (hg : o.guard = none) (hn : Nat.blt d S.nt = true) (hG : GE.get G d = none) (ho : o.op = .indexAddr t x y) (h0 : lookF E G x = some (true, .pointer (some ⟨b, i, none⟩))) (h1 : lookF E G y = some (true, .int kk zz)) (hk : arrK S.P t = some (m, k)) (hz : zz = (j : Int)) (hj : j < m)
    (h : GoO S (some (n0, ⟨n, n, fun _ => False, fun _ => False⟩ :: is)) ops rest ((d, .pointer (some ⟨b, i + j * k, none⟩)) :: E) G n H K) : GoO S (some (n0, is)) ops (o :: rest) E G n H K :=
  go_valD hd hg hn hG (fun ρ hρ => by rw [ho]; exact p_indexAddrA (hρ.u h0) (hρ.u h1) hk hz hj) h
theorem go_extract {vs : Array Value} {i : Nat} (hd : o.dst = some d) (hg : o.guard = none) (hn : Nat.blt d S.nt = true) (hG : GE.get G d = none) (ho : o.op = .extract x i) (h0 : lookF E G x = some (true, .tuple vs)) (hv : nth vs.toList i = some v)
    (h : GoO S none ops rest ((d, v) :: E) G n H K) : GoO S none ops (o :: rest) E G n H K :=
  go_val hd hg hn hG (fun ρ hρ => by rw [ho]; exact p_extract (hρ.u h0) hv) h
theorem go_extractG {vs : Array Value} {i : Nat} {j dj : Nat} {gw r p r0 : Bool} (hd : o.dst = some d) (hg : o.guard = some (j, gw)) (hj : dstOf ops j = some dj) (hl : lookF E G (.tmp dj) = some (r, .bool p)) (h0 : r0 = (r && (p == gw))) (hn : Nat.blt d S.nt = true) (hE : Env.get E d = none) (hG : GE.get G d = none) (ho : o.op = .extract x i) {rr0 : Bool} (lk0 : lookF E G x = some (rr0, .tuple vs)) (i0 : r0 = true → rr0 = true) (hv : nth vs.toList i = some v)
    (h : GoO S none ops rest E (⟨d, r0, v⟩ :: G) n H K) : GoO S none ops (o :: rest) E G n H K :=
  go_gstep (fun _ => False) hd hg hj hl h0 hn hE hG (fun _ _ h => h.elim) (fun hr ρ hρ => by rw [ho]; exact wp_val (p_extract (hρ.g lk0 (i0 hr)) hv) ⟨rfl, rfl, rfl⟩) h
theorem go_extractD {vs : Array Value} {i : Nat} (hd : o.dst = some d) (hg : o.guard = none) (hn : Nat.blt d S.nt = true) (hG : GE.get G d = none) (ho : o.op = .extract x i) (h0 : lookF E G x = some (true, .tuple vs)) (hv : nth vs.toList i = some v)
    (h : GoO S (some (n0, ⟨n, n, fun _ => False, fun _ => False⟩ :: is)) ops rest ((d, v) :: E) G n H K) : GoO S (some (n0, is)) ops (o :: rest) E G n H K :=
  go_valD hd hg hn hG (fun ρ hρ => by rw [ho]; exact p_extract (hρ.u h0) hv) h
theorem go_extractGD {vs : Array Value} {i : Nat} {j dj : Nat} {gw r p r0 : Bool} (hd : o.dst = some d) (hg : o.guard = some (j, gw)) (hj : dstOf ops j = some dj) (hl : lookF E G (.tmp dj) = some (r, .bool p)) (h0 : r0 = (r && (p == gw))) (hn : Nat.blt d S.nt = true) (hE : Env.get E d = none) (hG : GE.get G d = none) (ho : o.op = .extract x i) {rr0 : Bool} (lk0 : lookF E G x = some (rr0, .tuple vs)) (i0 : r0 = true → rr0 = true) (hv : nth vs.toList i = some v)
    (h : GoO S (some (n0, ⟨n, n, fun _ => False, fun _ => False⟩ :: is)) ops rest E (⟨d, r0, v⟩ :: G) n H K) : GoO S (some (n0, is)) ops (o :: rest) E G n H K :=
  go_gstep (fun _ => False) hd hg hj hl h0 hn hE hG (fun _ _ h => h.elim) (fun hr ρ hρ => by rw [ho]; exact wp_val (p_extract (hρ.g lk0 (i0 hr)) hv) ⟨rfl, rfl, rfl⟩) h
theorem go_makeIface {de : TypeDesc} (hd : o.dst = some d) (hg : o.guard = none) (hn : Nat.blt d S.nt = true) (hG : GE.get G d = none) (ho : o.op = .makeInterface t x) (h0 : lookF E G x = some (true, v)) (hu : S.P.underlying t = some de) (hi : ∀ ms, de ≠ .interface ms)
    (h : GoO S none ops rest ((d, .iface t v) :: E) G n H K) : GoO S none ops (o :: rest) E G n H K :=
  go_val hd hg hn hG (fun ρ hρ => by rw [ho]; exact p_makeIface (hρ.u h0) hu hi) h
theorem go_makeIfaceG {de : TypeDesc} {j dj : Nat} {gw r p r0 : Bool} (hd : o.dst = some d) (hg : o.guard = some (j, gw)) (hj : dstOf ops j = some dj) (hl : lookF E G (.tmp dj) = some (r, .bool p)) (h0 : r0 = (r && (p == gw))) (hn : Nat.blt d S.nt = true) (hE : Env.get E d = none) (hG : GE.get G d = none) (ho : o.op = .makeInterface t x) {rr0 : Bool} (lk0 : lookF E G x = some (rr0, v)) (i0 : r0 = true → rr0 = true) (hu : S.P.underlying t = some de) (hi : ∀ ms, de ≠ .interface ms)
    (h : GoO S none ops rest E (⟨d, r0, .iface t v⟩ :: G) n H K) : GoO S none ops (o :: rest) E G n H K :=
  go_gstep (fun _ => False) hd hg hj hl h0 hn hE hG (fun _ _ h => h.elim) (fun hr ρ hρ => by rw [ho]; exact wp_val (p_makeIface (hρ.g lk0 (i0 hr)) hu hi) ⟨rfl, rfl, rfl⟩) h
theorem go_makeIfaceD {de : TypeDesc} (hd : o.dst = some d) (hg : o.guard = none) (hn : Nat.blt d S.nt = true) (hG : GE.get G d = none) (ho : o.op = .makeInterface t x) (h0 : lookF E G x = some (true, v)) (hu : S.P.underlying t = some de) (hi : ∀ ms, de ≠ .interface ms)
    (h : GoO S (some (n0, ⟨n, n, fun _ => False, fun _ => False⟩ :: is)) ops rest ((d, .iface t v) :: E) G n H K) : GoO S (some (n0, is)) ops (o :: rest) E G n H K :=
  go_valD hd hg hn hG (fun ρ hρ => by rw [ho]; exact p_makeIface (hρ.u h0) hu hi) h
theorem go_makeIfaceGD {de : TypeDesc} {j dj : Nat} {gw r p r0 : Bool} (hd : o.dst = some d) (hg : o.guard = some (j, gw)) (hj : dstOf ops j = some dj) (hl : lookF E G (.tmp dj) = some (r, .bool p)) (h0 : r0 = (r && (p == gw))) (hn : Nat.blt d S.nt = true) (hE : Env.get E d = none) (hG : GE.get G d = none) (ho : o.op = .makeInterface t x) {rr0 : Bool} (lk0 : lookF E G x = some (rr0, v)) (i0 : r0 = true → rr0 = true) (hu : S.P.underlying t = some de) (hi : ∀ ms, de ≠ .interface ms)
    (h : GoO S (some (n0, ⟨n, n, fun _ => False, fun _ => False⟩ :: is)) ops rest E (⟨d, r0, .iface t v⟩ :: G) n H K) : GoO S (some (n0, is)) ops (o :: rest) E G n H K :=
  go_gstep (fun _ => False) hd hg hj hl h0 hn hE hG (fun _ _ h => h.elim) (fun hr ρ hρ => by rw [ho]; exact wp_val (p_makeIface (hρ.g lk0 (i0 hr)) hu hi) ⟨rfl, rfl, rfl⟩) h
theorem go_ptrEqNil {e : TypeId} {a : Option Addr} (hd : o.dst = some d) (hg : o.guard = none) (hn : Nat.blt d S.nt = true) (hG : GE.get G d = none) (ho : o.op = .binOp .eql t x y s) (h0 : lookF E G x = some (true, .pointer a)) (h1 : lookF E G y = some (true, .pointer none)) (hu : S.P.underlying t = some (.pointer e))
    (h : GoO S none ops rest ((d, .bool a.isNone) :: E) G n H K) : GoO S none ops (o :: rest) E G n H K :=
  go_val hd hg hn hG (fun ρ hρ => by rw [ho]; exact p_ptrEqNil (hρ.u h0) (hρ.u h1) hu) h
theorem go_ptrEqNilG {e : TypeId} {a : Option Addr} {j dj : Nat} {gw r p r0 : Bool} (hd : o.dst = some d) (hg : o.guard = some (j, gw)) (hj : dstOf ops j = some dj) (hl : lookF E G (.tmp dj) = some (r, .bool p)) (h0 : r0 = (r && (p == gw))) (hn : Nat.blt d S.nt = true) (hE : Env.get E d = none) (hG : GE.get G d = none) (ho : o.op = .binOp .eql t x y s) {rr0 : Bool} (lk0 : lookF E G x = some (rr0, .pointer a)) (i0 : r0 = true → rr0 = true) {rr1 : Bool} (lk1 : lookF E G y = some (rr1, .pointer none)) (i1 : r0 = true → rr1 = true) (hu : S.P.underlying t = some (.pointer e))
    (h : GoO S none ops rest E (⟨d, r0, .bool a.isNone⟩ :: G) n H K) : GoO S none ops (o :: rest) E G n H K :=
  go_gstep (fun _ => False) hd hg hj hl h0 hn hE hG (fun _ _ h => h.elim) (fun hr ρ hρ => by rw [ho]; exact wp_val (p_ptrEqNil (hρ.g lk0 (i0 hr)) (hρ.g lk1 (i1 hr)) hu) ⟨rfl, rfl, rfl⟩) h
theorem go_ptrEqNilD {e : TypeId} {a : Option Addr} (hd : o.dst = some d) (hg : o.guard = none) (hn : Nat.blt d S.nt = true) (hG : GE.get G d = none) (ho : o.op = .binOp .eql t x y s) (h0 : lookF E G x = some (true, .pointer a)) (h1 : lookF E G y = some (true, .pointer none)) (hu : S.P.underlying t = some (.pointer e))
    (h : GoO S (some (n0, ⟨n, n, fun _ => False, fun _ => False⟩ :: is)) ops rest ((d, .bool a.isNone) :: E) G n H K) : GoO S (some (n0, is)) ops (o :: rest) E G n H K :=
  go_valD hd hg hn hG (fun ρ hρ => by rw [ho]; exact p_ptrEqNil (hρ.u h0) (hρ.u h1) hu) h
theorem go_ptrEqNilGD {e : TypeId} {a : Option Addr} {j dj : Nat} {gw r p r0 : Bool} (hd : o.dst = some d) (hg : o.guard = some (j, gw)) (hj : dstOf ops j = some dj) (hl : lookF E G (.tmp dj) = some (r, .bool p)) (h0 : r0 = (r && (p == gw))) (hn : Nat.blt d S.nt = true) (hE : Env.get E d = none) (hG : GE.get G d = none) (ho : o.op = .binOp .eql t x y s) {rr0 : Bool} (lk0 : lookF E G x = some (rr0, .pointer a)) (i0 : r0 = true → rr0 = true) {rr1 : Bool} (lk1 : lookF E G y = some (rr1, .pointer none)) (i1 : r0 = true → rr1 = true) (hu : S.P.underlying t = some (.pointer e))
    (h : GoO S (some (n0, ⟨n, n, fun _ => False, fun _ => False⟩ :: is)) ops rest E (⟨d, r0, .bool a.isNone⟩ :: G) n H K) : GoO S (some (n0, is)) ops (o :: rest) E G n H K :=
  go_gstep (fun _ => False) hd hg hj hl h0 hn hE hG (fun _ _ h => h.elim) (fun hr ρ hρ => by rw [ho]; exact wp_val (p_ptrEqNil (hρ.g lk0 (i0 hr)) (hρ.g lk1 (i1 hr)) hu) ⟨rfl, rfl, rfl⟩) h
theorem go_ptrNeNil {e : TypeId} {a : Option Addr} (hd : o.dst = some d) (hg : o.guard = none) (hn : Nat.blt d S.nt = true) (hG : GE.get G d = none) (ho : o.op = .binOp .neq t x y s) (h0 : lookF E G x = some (true, .pointer a)) (h1 : lookF E G y = some (true, .pointer none)) (hu : S.P.underlying t = some (.pointer e))
    (h : GoO S none ops rest ((d, .bool (!a.isNone)) :: E) G n H K) : GoO S none ops (o :: rest) E G n H K :=
  go_val hd hg hn hG (fun ρ hρ => by rw [ho]; exact p_ptrNeNil (hρ.u h0) (hρ.u h1) hu) h
theorem go_ptrNeNilG {e : TypeId} {a : Option Addr} {j dj : Nat} {gw r p r0 : Bool} (hd : o.dst = some d) (hg : o.guard = some (j, gw)) (hj : dstOf ops j = some dj) (hl : lookF E G (.tmp dj) = some (r, .bool p)) (h0 : r0 = (r && (p == gw))) (hn : Nat.blt d S.nt = true) (hE : Env.get E d = none) (hG : GE.get G d = none) (ho : o.op = .binOp .neq t x y s) {rr0 : Bool} (lk0 : lookF E G x = some (rr0, .pointer a)) (i0 : r0 = true → rr0 = true) {rr1 : Bool} (lk1 : lookF E G y = some (rr1, .pointer none)) (i1 : r0 = true → rr1 = true) (hu : S.P.underlying t = some (.pointer e))
    (h : GoO S none ops rest E (⟨d, r0, .bool (!a.isNone)⟩ :: G) n H K) : GoO S none ops (o :: rest) E G n H K :=
  go_gstep (fun _ => False) hd hg hj hl h0 hn hE hG (fun _ _ h => h.elim) (fun hr ρ hρ => by rw [ho]; exact wp_val (p_ptrNeNil (hρ.g lk0 (i0 hr)) (hρ.g lk1 (i1 hr)) hu) ⟨rfl, rfl, rfl⟩) h
theorem go_ptrNeNilD {e : TypeId} {a : Option Addr} (hd : o.dst = some d) (hg : o.guard = none) (hn : Nat.blt d S.nt = true) (hG : GE.get G d = none) (ho : o.op = .binOp .neq t x y s) (h0 : lookF E G x = some (true, .pointer a)) (h1 : lookF E G y = some (true, .pointer none)) (hu : S.P.underlying t = some (.pointer e))
    (h : GoO S (some (n0, ⟨n, n, fun _ => False, fun _ => False⟩ :: is)) ops rest ((d, .bool (!a.isNone)) :: E) G n H K) : GoO S (some (n0, is)) ops (o :: rest) E G n H K :=
  go_valD hd hg hn hG (fun ρ hρ => by rw [ho]; exact p_ptrNeNil (hρ.u h0) (hρ.u h1) hu) h
theorem go_ptrNeNilGD {e : TypeId} {a : Option Addr} {j dj : Nat} {gw r p r0 : Bool} (hd : o.dst = some d) (hg : o.guard = some (j, gw)) (hj : dstOf ops j = some dj) (hl : lookF E G (.tmp dj) = some (r, .bool p)) (h0 : r0 = (r && (p == gw))) (hn : Nat.blt d S.nt = true) (hE : Env.get E d = none) (hG : GE.get G d = none) (ho : o.op = .binOp .neq t x y s) {rr0 : Bool} (lk0 : lookF E G x = some (rr0, .pointer a)) (i0 : r0 = true → rr0 = true) {rr1 : Bool} (lk1 : lookF E G y = some (rr1, .pointer none)) (i1 : r0 = true → rr1 = true) (hu : S.P.underlying t = some (.pointer e))
    (h : GoO S (some (n0, ⟨n, n, fun _ => False, fun _ => False⟩ :: is)) ops rest E (⟨d, r0, .bool (!a.isNone)⟩ :: G) n H K) : GoO S (some (n0, is)) ops (o :: rest) E G n H K :=
  go_gstep (fun _ => False) hd hg hj hl h0 hn hE hG (fun _ _ h => h.elim) (fun hr ρ hρ => by rw [ho]; exact wp_val (p_ptrNeNil (hρ.g lk0 (i0 hr)) (hρ.g lk1 (i1 hr)) hu) ⟨rfl, rfl, rfl⟩) h
theorem go_boolEq {p0 q0 : Bool} (hd : o.dst = some d) (hg : o.guard = none) (hn : Nat.blt d S.nt = true) (hG : GE.get G d = none) (ho : o.op = .binOp .eql t x y s) (h0 : lookF E G x = some (true, .bool p0)) (h1 : lookF E G y = some (true, .bool q0)) (hu : S.P.underlying t = some .bool)
    (h : GoO S none ops rest ((d, .bool (p0 == q0)) :: E) G n H K) : GoO S none ops (o :: rest) E G n H K :=
  go_val hd hg hn hG (fun ρ hρ => by rw [ho]; exact p_boolEq (hρ.u h0) (hρ.u h1) hu) h
theorem go_boolEqG {p0 q0 : Bool} {j dj : Nat} {gw r p r0 : Bool} (hd : o.dst = some d) (hg : o.guard = some (j, gw)) (hj : dstOf ops j = some dj) (hl : lookF E G (.tmp dj) = some (r, .bool p)) (h0 : r0 = (r && (p == gw))) (hn : Nat.blt d S.nt = true) (hE : Env.get E d = none) (hG : GE.get G d = none) (ho : o.op = .binOp .eql t x y s) {rr0 : Bool} (lk0 : lookF E G x = some (rr0, .bool p0)) (i0 : r0 = true → rr0 = true) {rr1 : Bool} (lk1 : lookF E G y = some (rr1, .bool q0)) (i1 : r0 = true → rr1 = true) (hu : S.P.underlying t = some .bool)
    (h : GoO S none ops rest E (⟨d, r0, .bool (p0 == q0)⟩ :: G) n H K) : GoO S none ops (o :: rest) E G n H K :=
  go_gstep (fun _ => False) hd hg hj hl h0 hn hE hG (fun _ _ h => h.elim) (fun hr ρ hρ => by rw [ho]; exact wp_val (p_boolEq (hρ.g lk0 (i0 hr)) (hρ.g lk1 (i1 hr)) hu) ⟨rfl, rfl, rfl⟩) h
theorem go_boolEqD {p0 q0 : Bool} (hd : o.dst = some d) (hg : o.guard = none) (hn : Nat.blt d S.nt = true) (hG : GE.get G d = none) (ho : o.op = .binOp .eql t x y s) (h0 : lookF E G x = some (true, .bool p0)) (h1 : lookF E G y = some (true, .bool q0)) (hu : S.P.underlying t = some .bool)
    (h : GoO S (some (n0, ⟨n, n, fun _ => False, fun _ => False⟩ :: is)) ops rest ((d, .bool (p0 == q0)) :: E) G n H K) : GoO S (some (n0, is)) ops (o :: rest) E G n H K :=
  go_valD hd hg hn hG (fun ρ hρ => by rw [ho]; exact p_boolEq (hρ.u h0) (hρ.u h1) hu) h
theorem go_boolEqGD {p0 q0 : Bool} {j dj : Nat} {gw r p r0 : Bool} (hd : o.dst = some d) (hg : o.guard = some (j, gw)) (hj : dstOf ops j = some dj) (hl : lookF E G (.tmp dj) = some (r, .bool p)) (h0 : r0 = (r && (p == gw))) (hn : Nat.blt d S.nt = true) (hE : Env.get E d = none) (hG : GE.get G d = none) (ho : o.op = .binOp .eql t x y s) {rr0 : Bool} (lk0 : lookF E G x = some (rr0, .bool p0)) (i0 : r0 = true → rr0 = true) {rr1 : Bool} (lk1 : lookF E G y = some (rr1, .bool q0)) (i1 : r0 = true → rr1 = true) (hu : S.P.underlying t = some .bool)
    (h : GoO S (some (n0, ⟨n, n, fun _ => False, fun _ => False⟩ :: is)) ops rest E (⟨d, r0, .bool (p0 == q0)⟩ :: G) n H K) : GoO S (some (n0, is)) ops (o :: rest) E G n H K :=
  go_gstep (fun _ => False) hd hg hj hl h0 hn hE hG (fun _ _ h => h.elim) (fun hr ρ hρ => by rw [ho]; exact wp_val (p_boolEq (hρ.g lk0 (i0 hr)) (hρ.g lk1 (i1 hr)) hu) ⟨rfl, rfl, rfl⟩) h
theorem go_boolNe {p0 q0 : Bool} (hd : o.dst = some d) (hg : o.guard = none) (hn : Nat.blt d S.nt = true) (hG : GE.get G d = none) (ho : o.op = .binOp .neq t x y s) (h0 : lookF E G x = some (true, .bool p0)) (h1 : lookF E G y = some (true, .bool q0)) (hu : S.P.underlying t = some .bool)
    (h : GoO S none ops rest ((d, .bool (!(p0 == q0))) :: E) G n H K) : GoO S none ops (o :: rest) E G n H K :=
  go_val hd hg hn hG (fun ρ hρ => by rw [ho]; exact p_boolNe (hρ.u h0) (hρ.u h1) hu) h
theorem go_boolNeG {p0 q0 : Bool} {j dj : Nat} {gw r p r0 : Bool} (hd : o.dst = some d) (hg : o.guard = some (j, gw)) (hj : dstOf ops j = some dj) (hl : lookF E G (.tmp dj) = some (r, .bool p)) (h0 : r0 = (r && (p == gw))) (hn : Nat.blt d S.nt = true) (hE : Env.get E d = none) (hG : GE.get G d = none) (ho : o.op = .binOp .neq t x y s) {rr0 : Bool} (lk0 : lookF E G x = some (rr0, .bool p0)) (i0 : r0 = true → rr0 = true) {rr1 : Bool} (lk1 : lookF E G y = some (rr1, .bool q0)) (i1 : r0 = true → rr1 = true) (hu : S.P.underlying t = some .bool)
    (h : GoO S none ops rest E (⟨d, r0, .bool (!(p0 == q0))⟩ :: G) n H K) : GoO S none ops (o :: rest) E G n H K :=
  go_gstep (fun _ => False) hd hg hj hl h0 hn hE hG (fun _ _ h => h.elim) (fun hr ρ hρ => by rw [ho]; exact wp_val (p_boolNe (hρ.g lk0 (i0 hr)) (hρ.g lk1 (i1 hr)) hu) ⟨rfl, rfl, rfl⟩) h
theorem go_boolNeD {p0 q0 : Bool} (hd : o.dst = some d) (hg : o.guard = none) (hn : Nat.blt d S.nt = true) (hG : GE.get G d = none) (ho : o.op = .binOp .neq t x y s) (h0 : lookF E G x = some (true, .bool p0)) (h1 : lookF E G y = some (true, .bool q0)) (hu : S.P.underlying t = some .bool)
    (h : GoO S (some (n0, ⟨n, n, fun _ => False, fun _ => False⟩ :: is)) ops rest ((d, .bool (!(p0 == q0))) :: E) G n H K) : GoO S (some (n0, is)) ops (o :: rest) E G n H K :=
  go_valD hd hg hn hG (fun ρ hρ => by rw [ho]; exact p_boolNe (hρ.u h0) (hρ.u h1) hu) h
theorem go_boolNeGD {p0 q0 : Bool} {j dj : Nat} {gw r p r0 : Bool} (hd : o.dst = some d) (hg : o.guard = some (j, gw)) (hj : dstOf ops j = some dj) (hl : lookF E G (.tmp dj) = some (r, .bool p)) (h0 : r0 = (r && (p == gw))) (hn : Nat.blt d S.nt = true) (hE : Env.get E d = none) (hG : GE.get G d = none) (ho : o.op = .binOp .neq t x y s) {rr0 : Bool} (lk0 : lookF E G x = some (rr0, .bool p0)) (i0 : r0 = true → rr0 = true) {rr1 : Bool} (lk1 : lookF E G y = some (rr1, .bool q0)) (i1 : r0 = true → rr1 = true) (hu : S.P.underlying t = some .bool)
    (h : GoO S (some (n0, ⟨n, n, fun _ => False, fun _ => False⟩ :: is)) ops rest E (⟨d, r0, .bool (!(p0 == q0))⟩ :: G) n H K) : GoO S (some (n0, is)) ops (o :: rest) E G n H K :=
  go_gstep (fun _ => False) hd hg hj hl h0 hn hE hG (fun _ _ h => h.elim) (fun hr ρ hρ => by rw [ho]; exact wp_val (p_boolNe (hρ.g lk0 (i0 hr)) (hρ.g lk1 (i1 hr)) hu) ⟨rfl, rfl, rfl⟩) h
theorem go_len {c : Call} {m code : Nat} {a : Option Addr} {ts : List TypeId} {e : TypeId} (hd : o.dst = some d) (hg : o.guard = none) (hn : Nat.blt d S.nt = true) (hG : GE.get G d = none) (ho : o.op = .call c)  (hc : c.callee = .builtin .len) (ha : lookL E G c.args.toList = some [.slice a m code]) (ht : c.argTypes.toList = t :: ts) (hu : S.P.underlying t = some (.slice e))
    (h : GoO S none ops rest ((d, .int .i64 (m : Int)) :: E) G n H K) : GoO S none ops (o :: rest) E G n H K :=
  go_val hd hg hn hG (fun ρ hρ => by rw [ho]; exact p_len hc (hρ.l ha) ht hu) h
theorem go_lenD {c : Call} {m code : Nat} {a : Option Addr} {ts : List TypeId} {e : TypeId} (hd : o.dst = some d) (hg : o.guard = none) (hn : Nat.blt d S.nt = true) (hG : GE.get G d = none) (ho : o.op = .call c)  (hc : c.callee = .builtin .len) (ha : lookL E G c.args.toList = some [.slice a m code]) (ht : c.argTypes.toList = t :: ts) (hu : S.P.underlying t = some (.slice e))
    (h : GoO S (some (n0, ⟨n, n, fun _ => False, fun _ => False⟩ :: is)) ops rest ((d, .int .i64 (m : Int)) :: E) G n H K) : GoO S (some (n0, is)) ops (o :: rest) E G n H K :=
  go_valD hd hg hn hG (fun ρ hρ => by rw [ho]; exact p_len hc (hρ.l ha) ht hu) h
theorem go_lenS {c : Call} {bs : ByteArray} {ts : List TypeId} (hd : o.dst = some d) (hg : o.guard = none) (hn : Nat.blt d S.nt = true) (hG : GE.get G d = none) (ho : o.op = .call c)  (hc : c.callee = .builtin .len) (ha : lookL E G c.args.toList = some [.string bs]) (ht : c.argTypes.toList = t :: ts) (hu : S.P.underlying t = some .string)
    (h : GoO S none ops rest ((d, .int .i64 (bs.size : Int)) :: E) G n H K) : GoO S none ops (o :: rest) E G n H K :=
  go_val hd hg hn hG (fun ρ hρ => by rw [ho]; exact p_lenS hc (hρ.l ha) ht hu) h
theorem go_lenSD {c : Call} {bs : ByteArray} {ts : List TypeId} (hd : o.dst = some d) (hg : o.guard = none) (hn : Nat.blt d S.nt = true) (hG : GE.get G d = none) (ho : o.op = .call c)  (hc : c.callee = .builtin .len) (ha : lookL E G c.args.toList = some [.string bs]) (ht : c.argTypes.toList = t :: ts) (hu : S.P.underlying t = some .string)
    (h : GoO S (some (n0, ⟨n, n, fun _ => False, fun _ => False⟩ :: is)) ops rest ((d, .int .i64 (bs.size : Int)) :: E) G n H K) : GoO S (some (n0, is)) ops (o :: rest) E G n H K :=
  go_valD hd hg hn hG (fun ρ hρ => by rw [ho]; exact p_lenS hc (hρ.l ha) ht hu) h
theorem go_min2 {c : Call} {k k' : IntKind} {a b : Int} (hd : o.dst = some d) (hg : o.guard = none) (hn : Nat.blt d S.nt = true) (hG : GE.get G d = none) (ho : o.op = .call c)  (hc : c.callee = .builtin .min) (ha : lookL E G c.args.toList = some [.int k a, .int k' b])
    (h : GoO S none ops rest ((d, .int k (min a b)) :: E) G n H K) : GoO S none ops (o :: rest) E G n H K :=
  go_val hd hg hn hG (fun ρ hρ => by rw [ho]; exact p_min2 hc (hρ.l ha)) h
theorem go_min2D {c : Call} {k k' : IntKind} {a b : Int} (hd : o.dst = some d) (hg : o.guard = none) (hn : Nat.blt d S.nt = true) (hG : GE.get G d = none) (ho : o.op = .call c)  (hc : c.callee = .builtin .min) (ha : lookL E G c.args.toList = some [.int k a, .int k' b])
    (h : GoO S (some (n0, ⟨n, n, fun _ => False, fun _ => False⟩ :: is)) ops rest ((d, .int k (min a b)) :: E) G n H K) : GoO S (some (n0, is)) ops (o :: rest) E G n H K :=
  go_valD hd hg hn hG (fun ρ hρ => by rw [ho]; exact p_min2 hc (hρ.l ha)) h
theorem go_max2 {c : Call} {k k' : IntKind} {a b : Int} (hd : o.dst = some d) (hg : o.guard = none) (hn : Nat.blt d S.nt = true) (hG : GE.get G d = none) (ho : o.op = .call c)  (hc : c.callee = .builtin .max) (ha : lookL E G c.args.toList = some [.int k a, .int k' b])
    (h : GoO S none ops rest ((d, .int k (max a b)) :: E) G n H K) : GoO S none ops (o :: rest) E G n H K :=
  go_val hd hg hn hG (fun ρ hρ => by rw [ho]; exact p_max2 hc (hρ.l ha)) h
theorem go_max2D {c : Call} {k k' : IntKind} {a b : Int} (hd : o.dst = some d) (hg : o.guard = none) (hn : Nat.blt d S.nt = true) (hG : GE.get G d = none) (ho : o.op = .call c)  (hc : c.callee = .builtin .max) (ha : lookL E G c.args.toList = some [.int k a, .int k' b])
    (h : GoO S (some (n0, ⟨n, n, fun _ => False, fun _ => False⟩ :: is)) ops rest ((d, .int k (max a b)) :: E) G n H K) : GoO S (some (n0, is)) ops (o :: rest) E G n H K :=
  go_valD hd hg hn hG (fun ρ hρ => by rw [ho]; exact p_max2 hc (hρ.l ha)) h
theorem go_makeFunc {fn : Go.Fn} {f c : Array Operand} {f' c' : List Value} (hd : o.dst = some d) (hg : o.guard = none) (hn : Nat.blt d S.nt = true) (hG : GE.get G d = none) (ho : o.op = .makeFunc fn f c)  (hf : lookL E G f.toList = some f') (hc : lookL E G c.toList = some c')
    (h : GoO S none ops rest ((d, .func fn f'.toArray c'.toArray) :: E) G n H K) : GoO S none ops (o :: rest) E G n H K :=
  go_val hd hg hn hG (fun ρ hρ => by rw [ho]; exact p_makeFunc (hρ.l hf) (hρ.l hc)) h
theorem go_makeFuncD {fn : Go.Fn} {f c : Array Operand} {f' c' : List Value} (hd : o.dst = some d) (hg : o.guard = none) (hn : Nat.blt d S.nt = true) (hG : GE.get G d = none) (ho : o.op = .makeFunc fn f c)  (hf : lookL E G f.toList = some f') (hc : lookL E G c.toList = some c')
    (h : GoO S (some (n0, ⟨n, n, fun _ => False, fun _ => False⟩ :: is)) ops rest ((d, .func fn f'.toArray c'.toArray) :: E) G n H K) : GoO S (some (n0, is)) ops (o :: rest) E G n H K :=
  go_valD hd hg hn hG (fun ρ hρ => by rw [ho]; exact p_makeFunc (hρ.l hf) (hρ.l hc)) h
theorem go_build {parts : Array (Nat × Operand)} {ps : List (Nat × Value)} {pls : List (Nat × Nat)} {cs : List Value} (hd : o.dst = some d) (hg : o.guard = none) (hn : Nat.blt d S.nt = true) (hG : GE.get G d = none) (ho : o.op = .build t parts)  (hz : zero' S.P t = some u) (hl : buildAt S.P t = some pls) (hp : lookP E G parts.toList = some ps) (hf : fillA (nth pls) (cellsOf u) ps = some cs)
    (h : GoO S none ops rest ((d, .agg cs.toArray) :: E) G n H K) : GoO S none ops (o :: rest) E G n H K :=
  go_val hd hg hn hG (fun ρ hρ => by rw [ho]; exact p_build hz hl (hρ.p hp) hf) h
theorem go_buildD {parts : Array (Nat × Operand)} {ps : List (Nat × Value)} {pls : List (Nat × Nat)} {cs : List Value} (hd : o.dst = some d) (hg : o.guard = none) (hn : Nat.blt d S.nt = true) (hG : GE.get G d = none) (ho : o.op = .build t parts)  (hz : zero' S.P t = some u) (hl : buildAt S.P t = some pls) (hp : lookP E G parts.toList = some ps) (hf : fillA (nth pls) (cellsOf u) ps = some cs)
    (h : GoO S (some (n0, ⟨n, n, fun _ => False, fun _ => False⟩ :: is)) ops rest ((d, .agg cs.toArray) :: E) G n H K) : GoO S (some (n0, is)) ops (o :: rest) E G n H K :=
  go_valD hd hg hn hG (fun ρ hρ => by rw [ho]; exact p_build hz hl (hρ.p hp) hf) h
theorem go_buildA {parts : Array (Nat × Operand)} {ps : List (Nat × Value)} {n2 k : Nat} {cs : List Value} (hd : o.dst = some d) (hg : o.guard = none) (hn : Nat.blt d S.nt = true) (hG : GE.get G d = none) (ho : o.op = .build t parts)  (hz : zero' S.P t = some u) (hl : arrK S.P t = some (n2, k)) (hp : lookP E G parts.toList = some ps) (hf : fillA (fun i => some (i * k, k)) (cellsOf u) ps = some cs)
    (h : GoO S none ops rest ((d, .agg cs.toArray) :: E) G n H K) : GoO S none ops (o :: rest) E G n H K :=
  go_val hd hg hn hG (fun ρ hρ => by rw [ho]; exact p_buildA hz hl (hρ.p hp) hf) h
theorem go_buildAD {parts : Array (Nat × Operand)} {ps : List (Nat × Value)} {n2 k : Nat} {cs : List Value} (hd : o.dst = some d) (hg : o.guard = none) (hn : Nat.blt d S.nt = true) (hG : GE.get G d = none) (ho : o.op = .build t parts)  (hz : zero' S.P t = some u) (hl : arrK S.P t = some (n2, k)) (hp : lookP E G parts.toList = some ps) (hf : fillA (fun i => some (i * k, k)) (cellsOf u) ps = some cs)
    (h : GoO S (some (n0, ⟨n, n, fun _ => False, fun _ => False⟩ :: is)) ops rest ((d, .agg cs.toArray) :: E) G n H K) : GoO S (some (n0, is)) ops (o :: rest) E G n H K :=
  go_valD hd hg hn hG (fun ρ hρ => by rw [ho]; exact p_buildA hz hl (hρ.p hp) hf) h
theorem go_pick_or {p0 q rb : Bool} (hd : o.dst = some d) (hg : o.guard = none) (hn : Nat.blt d S.nt = true) (hG : GE.get G d = none) (ho : o.op = .pick x y z) (hc : lookF E G x = some (true, .bool p0)) (hx : lookF E G y = some (true, .bool true)) (hy : lookF E G z = some (rb, .bool q)) (hrb : p0 = false → rb = true)
    (h : GoO S none ops rest ((d, .bool (p0 || q)) :: E) G n H K) : GoO S none ops (o :: rest) E G n H K :=
  go_val hd hg hn hG (fun ρ hρ => by rw [ho]; exact p_pick_or (hρ.u hc) (hρ.u hx) (fun hp => hρ.g hy (hrb hp))) h
theorem go_pick_orG {p0 q rb rc : Bool} {j dj : Nat} {gw r p r0 : Bool} (hd : o.dst = some d) (hg : o.guard = some (j, gw)) (hj : dstOf ops j = some dj) (hl : lookF E G (.tmp dj) = some (r, .bool p)) (h0 : r0 = (r && (p == gw))) (hn : Nat.blt d S.nt = true) (hE : Env.get E d = none) (hG : GE.get G d = none) (ho : o.op = .pick x y z) (hc : lookF E G x = some (rc, .bool p0)) (hrc : r0 = true → rc = true) (hx : lookF E G y = some (true, .bool true)) (hy : lookF E G z = some (rb, .bool q)) (hrb : r0 = true → p0 = false → rb = true)
    (h : GoO S none ops rest E (⟨d, r0, .bool (p0 || q)⟩ :: G) n H K) : GoO S none ops (o :: rest) E G n H K :=
  go_gstep (fun _ => False) hd hg hj hl h0 hn hE hG (fun _ _ h => h.elim) (fun hr ρ hρ => by rw [ho]; exact wp_val (p_pick_or (hρ.g hc (hrc hr)) (hρ.u hx) (fun hp => hρ.g hy (hrb hr hp))) ⟨rfl, rfl, rfl⟩) h
theorem go_pick_orD {p0 q rb : Bool} (hd : o.dst = some d) (hg : o.guard = none) (hn : Nat.blt d S.nt = true) (hG : GE.get G d = none) (ho : o.op = .pick x y z) (hc : lookF E G x = some (true, .bool p0)) (hx : lookF E G y = some (true, .bool true)) (hy : lookF E G z = some (rb, .bool q)) (hrb : p0 = false → rb = true)
    (h : GoO S (some (n0, ⟨n, n, fun _ => False, fun _ => False⟩ :: is)) ops rest ((d, .bool (p0 || q)) :: E) G n H K) : GoO S (some (n0, is)) ops (o :: rest) E G n H K :=
  go_valD hd hg hn hG (fun ρ hρ => by rw [ho]; exact p_pick_or (hρ.u hc) (hρ.u hx) (fun hp => hρ.g hy (hrb hp))) h
theorem go_pick_orGD {p0 q rb rc : Bool} {j dj : Nat} {gw r p r0 : Bool} (hd : o.dst = some d) (hg : o.guard = some (j, gw)) (hj : dstOf ops j = some dj) (hl : lookF E G (.tmp dj) = some (r, .bool p)) (h0 : r0 = (r && (p == gw))) (hn : Nat.blt d S.nt = true) (hE : Env.get E d = none) (hG : GE.get G d = none) (ho : o.op = .pick x y z) (hc : lookF E G x = some (rc, .bool p0)) (hrc : r0 = true → rc = true) (hx : lookF E G y = some (true, .bool true)) (hy : lookF E G z = some (rb, .bool q)) (hrb : r0 = true → p0 = false → rb = true)
    (h : GoO S (some (n0, ⟨n, n, fun _ => False, fun _ => False⟩ :: is)) ops rest E (⟨d, r0, .bool (p0 || q)⟩ :: G) n H K) : GoO S (some (n0, is)) ops (o :: rest) E G n H K :=
  go_gstep (fun _ => False) hd hg hj hl h0 hn hE hG (fun _ _ h => h.elim) (fun hr ρ hρ => by rw [ho]; exact wp_val (p_pick_or (hρ.g hc (hrc hr)) (hρ.u hx) (fun hp => hρ.g hy (hrb hr hp))) ⟨rfl, rfl, rfl⟩) h
theorem go_pick_and {p0 q rb : Bool} (hd : o.dst = some d) (hg : o.guard = none) (hn : Nat.blt d S.nt = true) (hG : GE.get G d = none) (ho : o.op = .pick x y z) (hc : lookF E G x = some (true, .bool p0)) (hx : lookF E G z = some (true, .bool false)) (hy : lookF E G y = some (rb, .bool q)) (hrb : p0 = true → rb = true)
    (h : GoO S none ops rest ((d, .bool (p0 && q)) :: E) G n H K) : GoO S none ops (o :: rest) E G n H K :=
  go_val hd hg hn hG (fun ρ hρ => by rw [ho]; exact p_pick_and (hρ.u hc) (hρ.u hx) (fun hp => hρ.g hy (hrb hp))) h
theorem go_pick_andG {p0 q rb rc : Bool} {j dj : Nat} {gw r p r0 : Bool} (hd : o.dst = some d) (hg : o.guard = some (j, gw)) (hj : dstOf ops j = some dj) (hl : lookF E G (.tmp dj) = some (r, .bool p)) (h0 : r0 = (r && (p == gw))) (hn : Nat.blt d S.nt = true) (hE : Env.get E d = none) (hG : GE.get G d = none) (ho : o.op = .pick x y z) (hc : lookF E G x = some (rc, .bool p0)) (hrc : r0 = true → rc = true) (hx : lookF E G z = some (true, .bool false)) (hy : lookF E G y = some (rb, .bool q)) (hrb : r0 = true → p0 = true → rb = true)
    (h : GoO S none ops rest E (⟨d, r0, .bool (p0 && q)⟩ :: G) n H K) : GoO S none ops (o :: rest) E G n H K :=
  go_gstep (fun _ => False) hd hg hj hl h0 hn hE hG (fun _ _ h => h.elim) (fun hr ρ hρ => by rw [ho]; exact wp_val (p_pick_and (hρ.g hc (hrc hr)) (hρ.u hx) (fun hp => hρ.g hy (hrb hr hp))) ⟨rfl, rfl, rfl⟩) h
theorem go_pick_andD {p0 q rb : Bool} (hd : o.dst = some d) (hg : o.guard = none) (hn : Nat.blt d S.nt = true) (hG : GE.get G d = none) (ho : o.op = .pick x y z) (hc : lookF E G x = some (true, .bool p0)) (hx : lookF E G z = some (true, .bool false)) (hy : lookF E G y = some (rb, .bool q)) (hrb : p0 = true → rb = true)
    (h : GoO S (some (n0, ⟨n, n, fun _ => False, fun _ => False⟩ :: is)) ops rest ((d, .bool (p0 && q)) :: E) G n H K) : GoO S (some (n0, is)) ops (o :: rest) E G n H K :=
  go_valD hd hg hn hG (fun ρ hρ => by rw [ho]; exact p_pick_and (hρ.u hc) (hρ.u hx) (fun hp => hρ.g hy (hrb hp))) h
theorem go_pick_andGD {p0 q rb rc : Bool} {j dj : Nat} {gw r p r0 : Bool} (hd : o.dst = some d) (hg : o.guard = some (j, gw)) (hj : dstOf ops j = some dj) (hl : lookF E G (.tmp dj) = some (r, .bool p)) (h0 : r0 = (r && (p == gw))) (hn : Nat.blt d S.nt = true) (hE : Env.get E d = none) (hG : GE.get G d = none) (ho : o.op = .pick x y z) (hc : lookF E G x = some (rc, .bool p0)) (hrc : r0 = true → rc = true) (hx : lookF E G z = some (true, .bool false)) (hy : lookF E G y = some (rb, .bool q)) (hrb : r0 = true → p0 = true → rb = true)
    (h : GoO S (some (n0, ⟨n, n, fun _ => False, fun _ => False⟩ :: is)) ops rest E (⟨d, r0, .bool (p0 && q)⟩ :: G) n H K) : GoO S (some (n0, is)) ops (o :: rest) E G n H K :=
  go_gstep (fun _ => False) hd hg hj hl h0 hn hE hG (fun _ _ h => h.elim) (fun hr ρ hρ => by rw [ho]; exact wp_val (p_pick_and (hρ.g hc (hrc hr)) (hρ.u hx) (fun hp => hρ.g hy (hrb hr hp))) ⟨rfl, rfl, rfl⟩) h
theorem go_indexAddrG {kk : IntKind} {b i m code jj k : Nat} {a : Option Addr} {zz : Int} {r1 r2 : Bool} {j dj : Nat} {gw r p r0 : Bool} (hd : o.dst = some d) (hg : o.guard = some (j, gw)) (hj : dstOf ops j = some dj) (hl : lookF E G (.tmp dj) = some (r, .bool p)) (h0 : r0 = (r && (p == gw))) (hn : Nat.blt d S.nt = true) (hE : Env.get E d = none) (hG : GE.get G d = none) (ho : o.op = .indexAddr t x y) (h1 : lookF E G x = some (r1, .slice a m code)) (i1 : r0 = true → r1 = true) (h2 : lookF E G y = some (r2, .int kk zz)) (i2 : r0 = true → r2 = true)
    (hk : eltK S.P t = some k) (hc : r0 = true → a = some ⟨b, i, none⟩ ∧ zz = (jj : Int) ∧ jj < m)
    (h : GoO S none ops rest E (⟨d, r0, .pointer (some ⟨b, i + jj * k, none⟩)⟩ :: G) n H K) : GoO S none ops (o :: rest) E G n H K :=
  go_gstep (fun _ => False) hd hg hj hl h0 hn hE hG (fun _ _ h => h.elim) (fun hr ρ hρ => by rw [ho]; exact wp_val (p_indexAddr (hρ.g h1 (i1 hr)) (hρ.g h2 (i2 hr)) hk (hc hr).1 (hc hr).2.1 (hc hr).2.2) ⟨rfl, rfl, rfl⟩) h
theorem go_indexAddrAG {kk : IntKind} {b i jj k m : Nat} {zz : Int} {r1 r2 : Bool} {j dj : Nat} {gw r p r0 : Bool} (hd : o.dst = some d) (hg : o.guard = some (j, gw)) (hj : dstOf ops j = some dj) (hl : lookF E G (.tmp dj) = some (r, .bool p)) (h0 : r0 = (r && (p == gw))) (hn : Nat.blt d S.nt = true) (hE : Env.get E d = none) (hG : GE.get G d = none) (ho : o.op = .indexAddr t x y) (h1 : lookF E G x = some (r1, .pointer (some ⟨b, i, none⟩))) (i1 : r0 = true → r1 = true) (h2 : lookF E G y = some (r2, .int kk zz)) (i2 : r0 = true → r2 = true)
    (hk : arrK S.P t = some (m, k)) (hc : r0 = true → zz = (jj : Int) ∧ jj < m)
    (h : GoO S none ops rest E (⟨d, r0, .pointer (some ⟨b, i + jj * k, none⟩)⟩ :: G) n H K) : GoO S none ops (o :: rest) E G n H K :=
  go_gstep (fun _ => False) hd hg hj hl h0 hn hE hG (fun _ _ h => h.elim) (fun hr ρ hρ => by rw [ho]; exact wp_val (p_indexAddrA (hρ.g h1 (i1 hr)) (hρ.g h2 (i2 hr)) hk (hc hr).1 (hc hr).2) ⟨rfl, rfl, rfl⟩) h
theorem go_loadG {b i : Nat} {r1 : Bool} {v : Value} {j dj : Nat} {gw r p r0 : Bool} (hd : o.dst = some d) (hg : o.guard = some (j, gw)) (hj : dstOf ops j = some dj) (hl : lookF E G (.tmp dj) = some (r, .bool p)) (h0 : r0 = (r && (p == gw))) (hn : Nat.blt d S.nt = true) (hE : Env.get E d = none) (hG : GE.get G d = none) (ho : o.op = .load t x) (h1 : lookF E G x = some (r1, .pointer (some ⟨b, i, none⟩))) (i1 : r0 = true → r1 = true) (ht : isAgg' S.P t = some false)
    (hR : b < S.c.n0 → S.c.R b ∨ S.c.W b) (hc : r0 = true → b < n ∧ ∃ cs rw old esz, H.get b = some (.cells cs rw old esz) ∧ nth cs i = some v)
    (h : GoO S none ops rest E (⟨d, r0, v⟩ :: G) n H K) : GoO S none ops (o :: rest) E G n H K := by
  refine go_gstep (fun b' => b' = b) hd hg hj hl h0 hn hE hG (fun b' q1 q2 => by subst q2; exact hR q1) (fun hr ρ hρ => ?_) h
  obtain ⟨q1, cs, rw, old, esz, q2, q3⟩ := hc hr
  rw [ho]
  exact w_load (hρ.g h1 (i1 hr)) ht q1 q2 q3 (fun _ => .inl rfl) ⟨rfl, rfl, rfl⟩
theorem go_loadAG {b i k : Nat} {r1 : Bool} {l : List Value} {j dj : Nat} {gw r p r0 : Bool} (hd : o.dst = some d) (hg : o.guard = some (j, gw)) (hj : dstOf ops j = some dj) (hl : lookF E G (.tmp dj) = some (r, .bool p)) (h0 : r0 = (r && (p == gw))) (hn : Nat.blt d S.nt = true) (hE : Env.get E d = none) (hG : GE.get G d = none) (ho : o.op = .load t x) (h1 : lookF E G x = some (r1, .pointer (some ⟨b, i, none⟩))) (i1 : r0 = true → r1 = true) (ht : isAgg' S.P t = some true) (hk : sizeOf' S.P t = some k)
    (hR : b < S.c.n0 → S.c.R b ∨ S.c.W b) (hc : r0 = true → b < n ∧ ∃ cs rw old esz, H.get b = some (.cells cs rw old esz) ∧ rowOf cs i k = some l)
    (h : GoO S none ops rest E (⟨d, r0, .agg l.toArray⟩ :: G) n H K) : GoO S none ops (o :: rest) E G n H K := by
  refine go_gstep (fun b' => b' = b) hd hg hj hl h0 hn hE hG (fun b' q1 q2 => by subst q2; exact hR q1) (fun hr ρ hρ => ?_) h
  obtain ⟨q1, cs, rw, old, esz, q2, q3⟩ := hc hr
  rw [ho]
  exact w_loadA (hρ.g h1 (i1 hr)) ht hk q1 q2 q3 (fun _ => .inl rfl) ⟨rfl, rfl, rfl⟩
theorem go_indexAddrGD {kk : IntKind} {b i m code jj k : Nat} {a : Option Addr} {zz : Int} {r1 r2 : Bool} {j dj : Nat} {gw r p r0 : Bool} (hd : o.dst = some d) (hg : o.guard = some (j, gw)) (hj : dstOf ops j = some dj) (hl : lookF E G (.tmp dj) = some (r, .bool p)) (h0 : r0 = (r && (p == gw))) (hn : Nat.blt d S.nt = true) (hE : Env.get E d = none) (hG : GE.get G d = none) (ho : o.op = .indexAddr t x y) (h1 : lookF E G x = some (r1, .slice a m code)) (i1 : r0 = true → r1 = true) (h2 : lookF E G y = some (r2, .int kk zz)) (i2 : r0 = true → r2 = true)
    (hk : eltK S.P t = some k) (hc : r0 = true → a = some ⟨b, i, none⟩ ∧ zz = (jj : Int) ∧ jj < m)
    (h : GoO S (some (n0, ⟨n, n, fun _ => False, fun _ => False⟩ :: is)) ops rest E (⟨d, r0, .pointer (some ⟨b, i + jj * k, none⟩)⟩ :: G) n H K) : GoO S (some (n0, is)) ops (o :: rest) E G n H K :=
  go_gstep (fun _ => False) hd hg hj hl h0 hn hE hG (fun _ _ h => h.elim) (fun hr ρ hρ => by rw [ho]; exact wp_val (p_indexAddr (hρ.g h1 (i1 hr)) (hρ.g h2 (i2 hr)) hk (hc hr).1 (hc hr).2.1 (hc hr).2.2) ⟨rfl, rfl, rfl⟩) h
theorem go_indexAddrAGD {kk : IntKind} {b i jj k m : Nat} {zz : Int} {r1 r2 : Bool} {j dj : Nat} {gw r p r0 : Bool} (hd : o.dst = some d) (hg : o.guard = some (j, gw)) (hj : dstOf ops j = some dj) (hl : lookF E G (.tmp dj) = some (r, .bool p)) (h0 : r0 = (r && (p == gw))) (hn : Nat.blt d S.nt = true) (hE : Env.get E d = none) (hG : GE.get G d = none) (ho : o.op = .indexAddr t x y) (h1 : lookF E G x = some (r1, .pointer (some ⟨b, i, none⟩))) (i1 : r0 = true → r1 = true) (h2 : lookF E G y = some (r2, .int kk zz)) (i2 : r0 = true → r2 = true)
    (hk : arrK S.P t = some (m, k)) (hc : r0 = true → zz = (jj : Int) ∧ jj < m)
    (h : GoO S (some (n0, ⟨n, n, fun _ => False, fun _ => False⟩ :: is)) ops rest E (⟨d, r0, .pointer (some ⟨b, i + jj * k, none⟩)⟩ :: G) n H K) : GoO S (some (n0, is)) ops (o :: rest) E G n H K :=
  go_gstep (fun _ => False) hd hg hj hl h0 hn hE hG (fun _ _ h => h.elim) (fun hr ρ hρ => by rw [ho]; exact wp_val (p_indexAddrA (hρ.g h1 (i1 hr)) (hρ.g h2 (i2 hr)) hk (hc hr).1 (hc hr).2) ⟨rfl, rfl, rfl⟩) h
theorem go_loadGD {b i : Nat} {r1 : Bool} {v : Value} {j dj : Nat} {gw r p r0 : Bool} (hd : o.dst = some d) (hg : o.guard = some (j, gw)) (hj : dstOf ops j = some dj) (hl : lookF E G (.tmp dj) = some (r, .bool p)) (h0 : r0 = (r && (p == gw))) (hn : Nat.blt d S.nt = true) (hE : Env.get E d = none) (hG : GE.get G d = none) (ho : o.op = .load t x) (h1 : lookF E G x = some (r1, .pointer (some ⟨b, i, none⟩))) (i1 : r0 = true → r1 = true) (ht : isAgg' S.P t = some false)
    (hR : b < S.c.n0 → S.c.R b ∨ S.c.W b) (hc : r0 = true → b < n ∧ ∃ cs rw old esz, H.get b = some (.cells cs rw old esz) ∧ nth cs i = some v)
    (h : GoO S (some (n0, ⟨n, n, fun b' => b' = b, fun _ => False⟩ :: is)) ops rest E (⟨d, r0, v⟩ :: G) n H K) : GoO S (some (n0, is)) ops (o :: rest) E G n H K := by
  refine go_gstep (fun b' => b' = b) hd hg hj hl h0 hn hE hG (fun b' q1 q2 => by subst q2; exact hR q1) (fun hr ρ hρ => ?_) h
  obtain ⟨q1, cs, rw, old, esz, q2, q3⟩ := hc hr
  rw [ho]
  exact w_load (hρ.g h1 (i1 hr)) ht q1 q2 q3 (fun _ => .inl rfl) ⟨rfl, rfl, rfl⟩
theorem go_loadAGD {b i k : Nat} {r1 : Bool} {l : List Value} {j dj : Nat} {gw r p r0 : Bool} (hd : o.dst = some d) (hg : o.guard = some (j, gw)) (hj : dstOf ops j = some dj) (hl : lookF E G (.tmp dj) = some (r, .bool p)) (h0 : r0 = (r && (p == gw))) (hn : Nat.blt d S.nt = true) (hE : Env.get E d = none) (hG : GE.get G d = none) (ho : o.op = .load t x) (h1 : lookF E G x = some (r1, .pointer (some ⟨b, i, none⟩))) (i1 : r0 = true → r1 = true) (ht : isAgg' S.P t = some true) (hk : sizeOf' S.P t = some k)
    (hR : b < S.c.n0 → S.c.R b ∨ S.c.W b) (hc : r0 = true → b < n ∧ ∃ cs rw old esz, H.get b = some (.cells cs rw old esz) ∧ rowOf cs i k = some l)
    (h : GoO S (some (n0, ⟨n, n, fun b' => b' = b, fun _ => False⟩ :: is)) ops rest E (⟨d, r0, .agg l.toArray⟩ :: G) n H K) : GoO S (some (n0, is)) ops (o :: rest) E G n H K := by
  refine go_gstep (fun b' => b' = b) hd hg hj hl h0 hn hE hG (fun b' q1 q2 => by subst q2; exact hR q1) (fun hr ρ hρ => ?_) h
  obtain ⟨q1, cs, rw, old, esz, q2, q3⟩ := hc hr
  rw [ho]
  exact w_loadA (hρ.g h1 (i1 hr)) ht hk q1 q2 q3 (fun _ => .inl rfl) ⟨rfl, rfl, rfl⟩
end
end Go.Shade

/- Slices as they are handed over and back; numbers as natural numbers. -/
namespace Go.Shade
set_option linter.unusedVariables false

/-- What may be read. -/
inductive SlR (R : Nat → Prop) (n : Nat) (H : Tr AObj) (k : Nat) : Option Addr → Nat → List Value → Prop where
  | nil : SlR R n H k none 0 []
  | void : SlR R n H k (some voidA) 0 []
  | row {b i m : Nat} {l cs : List Value} {rw : Bool} {old : List Nat} {esz : Nat} : R b → b < n → H.get b = some (.cells cs rw old esz) → rowOf cs i (m * k) = some l → SlR R n H k (some ⟨b, i, none⟩) m l
/-- What a slice's capacity is known to be. -/
inductive CapOK (k : Nat) : Option Addr → Nat → Nat → Prop where
  | nil {code : Nat} : CapOK k none 0 code
  | void0 : CapOK k (some voidA) 0 0
  | voidO {c : Nat} : CapOK k (some voidA) 0 (2 * c + 1)
  | ex {b i m c : Nat} : m ≤ c → CapOK k (some ⟨b, i, none⟩) m (2 * c + 1)
  | inx {b i m c : Nat} : m ≤ c → k < 65536 → CapOK k (some ⟨b, i, none⟩) m (codeI c k)
/-- A slice that may be read: it holds l. -/
structure Sl (R : Nat → Prop) (n : Nat) (H : Tr AObj) (k : Nat) (a : Option Addr) (m code : Nat) (l : List Value) : Prop where
  rd' : SlR R n H k a m l
  cap : CapOK k a m code

section
variable {lo n : Nat} {H : Tr AObj} {k m code : Nat} {a : Option Addr} {l : List Value} {R : Nat → Prop} {c : Cx}
theorem New.mono (h : New lo n H k a m code l) {n' lo' : Nat} {H' : Tr AObj} (hn : n ≤ n') (hl : lo' ≤ lo) (hf : ∀ b, lo ≤ b → b < n → H'.get b = H.get b) : New lo' n' H' k a m code l := by
  cases h with
  | nil => exact .nil
  | void => exact .void
  | full h1 h2 h3 h4 h5 => exact .full (by omega) (by omega) (by rw [hf _ h1 h2]; exact h3) h4 (fun o ho => let ⟨q1, q2, q3, q4⟩ := h5 o ho; ⟨by omega, by omega, q3, by rw [hf _ q1 q2]; exact q4⟩)
  | own h1 h2 h3 h4 h5 h6 => exact .own (by omega) (by omega) (by rw [hf _ h1 h2]; exact h3) h4 h5 (fun o ho => let ⟨q1, q2, q3, q4⟩ := h6 o ho; ⟨by omega, by omega, q3, by rw [hf _ q1 q2]; exact q4⟩)
theorem rowOf_all (l : List Value) : rowOf l 0 l.length = some l := by
  have : takeO l.length l = some l := by rw [takeO_some _ _ (Nat.le_refl _)]; simp
  simp [rowOf, dropO, this]
theorem New.cap (h : New lo n H k a m code l) : CapOK k a m code := by
  cases h with
  | nil => exact .nil
  | void => exact .voidO (c := 0)
  | full => exact .ex (Nat.le_refl _)
  | own h1 h2 h3 h4 h5 h6 => exact .inx (Nat.le_refl _) h5
theorem New.sl (h : New lo n H k a m code l) (hR : ∀ b, lo ≤ b → b < n → R b) : Sl R n H k a m code l := by
  refine ⟨?_, h.cap⟩
  cases h with
  | nil => exact .nil
  | void => exact .void
  | full h1 h2 h3 h4 h5 => exact .row (hR _ h1 h2) h2 h3 h4
  | own h1 h2 h3 h4 h5 h6 => exact .row (hR _ h1 h2) h2 h3 (by rw [← h4]; exact rowOf_all _)
theorem New.of_mk {b : Nat} {cs : List Value} (h1 : lo ≤ b) (h2 : b < n) {esz : Nat} (h3 : H.get b = some (.cells cs true [] esz)) (h4 : cs.length = m * k) : New lo n H k (some ⟨b, 0, none⟩) m (2 * m + 1) cs := by
  refine .full h1 h2 h3 ?_ (by simp)
  have : takeO cs.length cs = some cs := by rw [takeO_some _ _ (Nat.le_refl _)]; simp
  simp [rowOf, dropO, ← h4, this]
/-- What has grown is new where it was. -/
theorem Sl.length (h : Sl R n H k a m code l) : l.length = m * k := by
  cases h.rd' with
  | nil => simp
  | void => simp
  | row h1 h2 h3 h4 => exact rowOf_length h4
theorem Sl.frame (h : Sl R n H k a m code l) {R' : Nat → Prop} {n' : Nat} {H' : Tr AObj} (hn : n ≤ n') (hR : ∀ b, R b → R' b) (hf : ∀ b, R b → b < n → H'.get b = H.get b) : Sl R' n' H' k a m code l := by
  refine ⟨?_, h.cap⟩
  cases h.rd' with
  | nil => exact .nil
  | void => exact .void
  | row h1 h2 h3 h4 => exact .row (hR _ h1) (by omega) (by rw [hf _ h1 h2]; exact h3) h4
theorem Sl.rd (h : Sl R n H k a m code l) (hR : ∀ b, R b → b < c.n0 → c.R b ∨ c.W b) : RdS c n H k (.slice a m code) m l := by
  cases h.rd' with
  | nil => exact .nil
  | void => exact .void
  | row h1 h2 h3 h4 => exact .row h2 (hR _ h1) h3 h4
theorem rowOf_nth {cs : List Value} {lo k j : Nat} {l : List Value} (h : rowOf cs lo k = some l) (hj : j < k) : nth cs (lo + j) = l[j]? := by
  rw [nth_eq, rowOf_get h j hj]
theorem Sl.at (h : Sl R n H k a m code l) {j : Nat} (hj : j < m) : ∃ b i cs rw old esz, a = some ⟨b, i, none⟩ ∧ R b ∧ b < n ∧ H.get b = some (.cells cs rw old esz) ∧ ∀ t, t < m * k → nth cs (i + t) = l[t]? := by
  cases h.rd' with
  | nil => omega
  | void => omega
  | row h1 h2 h3 h4 => exact ⟨_, _, _, _, _, _, rfl, h1, h2, h3, fun t ht => rowOf_nth h4 ht⟩
end

theorem putAt_some {α : Type} : ∀ (i : Nat) (vs l : List α), i + vs.length ≤ l.length → putAt i vs l = some (l.take i ++ vs ++ l.drop (i + vs.length))
  | 0, vs, l, h => by
    have ov : ∀ (vs l : List α), vs.length ≤ l.length → over vs l = some (vs ++ l.drop vs.length) := by
      intro vs
      induction vs with
      | nil => intro l _; cases l <;> rfl
      | cons v vs ih =>
        intro l h
        cases l with
        | nil => simp at h
        | cons x l => simp only [over, ih l (by simpa using h)]; simp
    cases l with
    | nil => simp at h; subst h; rfl
    | cons x l => simp only [putAt, ov vs (x :: l) (by omega)]; simp
  | i + 1, vs, [], h => by simp at h
  | i + 1, vs, x :: l, h => by
    simp only [putAt, putAt_some i vs l (by simp at h; omega)]
    rw [show i + 1 + vs.length = (i + vs.length) + 1 from by omega]
    simp
theorem rowOf_some {cs : List Value} {lo k : Nat} (h : lo + k ≤ cs.length) : rowOf cs lo k = some ((cs.drop lo).take k) := by
  have hd : ∀ (i : Nat) (l : List Value), i ≤ l.length → dropO i l = some (l.drop i) := by
    intro i
    induction i with
    | zero => intro l _; rfl
    | succ i ih => intro l h; cases l with
      | nil => simp at h
      | cons x l => simp only [dropO, ih l (by simpa using h)]; simp
  unfold rowOf
  rw [hd lo cs (by omega)]
  exact takeO_some _ _ (by simp; omega)
/-- One cell of many. -/
theorem putAt_one {α : Type} {a b : List α} {x y : α} {i : Nat} (h : i = a.length) : putAt i [y] (a ++ x :: b) = some (a ++ y :: b) := by
  subst h
  rw [putAt_some _ _ _ (by simp)]
  simp
theorem putAt_block {α : Type} {a x y b : List α} {i : Nat} (h : i = a.length) (hl : x.length = y.length) : putAt i y (a ++ x ++ b) = some (a ++ y ++ b) := by
  subst h
  rw [putAt_some _ _ _ (by simp; omega)]
  simp [← hl]
theorem zeros_one (z : Value) : ∀ n, zeros [z] n = List.replicate n z
  | 0 => rfl
  | n + 1 => by simp [zeros, zeros_one z n, List.replicate_succ]

/-- Bytes, as cells. -/
def u8s (l : List Nat) : List Value := l.map fun (b : Nat) => .int .u8 (b : Int)
theorem u8s_length (l : List Nat) : (u8s l).length = l.length := by simp [u8s]
theorem u8s_append (a b : List Nat) : u8s (a ++ b) = u8s a ++ u8s b := by simp [u8s]
theorem u8s_one (l : List Nat) : (u8s l).all oneCell = true := by simp [u8s, oneCell]
theorem u8s_get (l : List Nat) (i : Nat) : (u8s l)[i]? = l[i]?.map fun (b : Nat) => .int .u8 (b : Int) := by simp [u8s]

theorem wrap_u8_nat {a : Nat} : IntKind.u8.wrap (a : Int) = ((a % 256 : Nat) : Int) := by rw [wrap_u8]; omega
theorem wrap_u16_nat {a : Nat} : IntKind.u16.wrap (a : Int) = ((a % 65536 : Nat) : Int) := by rw [wrap_u16]; omega
theorem wrap_u32_nat {a : Nat} : IntKind.u32.wrap (a : Int) = ((a % 4294967296 : Nat) : Int) := by rw [wrap_u32]; omega
theorem wrap_u64_nat {a : Nat} : IntKind.u64.wrap (a : Int) = ((a % 18446744073709551616 : Nat) : Int) := by rw [wrap_u64]; omega
theorem s_shr' {k : IntKind} {a b : Nat} {z : Int} (hz : z = (b : Int)) (hb : b ≤ k.bits) : shiftOp false k (a : Int) z = some (.int k ((a / 2 ^ b : Nat) : Int)) := by
  subst hz
  refine s_shr (by omega) ?_
  rw [Int.toNat_natCast, Nat.min_eq_left hb]
  have : ((2 : Int) ^ b) = ((2 ^ b : Nat) : Int) := by simp
  rw [this]
  exact (Int.ofNat_fdiv a (2 ^ b)).symm
theorem s_shl' {k : IntKind} {a b : Nat} {z c : Int} (hz : z = (b : Int)) (hb : b ≤ k.bits) (h : k.wrap ((a * 2 ^ b : Nat) : Int) = c) : shiftOp true k (a : Int) z = some (.int k c) := by
  subst hz
  refine s_shl (by omega) ?_
  rw [Int.toNat_natCast, Nat.min_eq_left hb, ← h]
  congr 1
theorem i_quo' {k : IntKind} {a b : Nat} {z c : Int} (hz : z = (b : Int)) (hb : b ≠ 0) (h : k.wrap ((a / b : Nat) : Int) = c) : intOp .quo k (a : Int) z = some (.int k c) := by
  subst hz
  refine i_quo (by omega) ?_
  rw [← h]
  rfl
theorem i_rem' {k : IntKind} {a b : Nat} {z : Int} (hz : z = (b : Int)) (hb : b ≠ 0) : intOp .rem k (a : Int) z = some (.int k ((a % b : Nat) : Int)) := by
  subst hz
  exact i_rem (by omega) rfl
end Go.Shade

/- Slicing, copying, guarded calls, bits. -/
namespace Go.Shade
set_option linter.unusedVariables false

/-- A number that an operand may give, else another one. -/
def lookI (E : Env) (G : List GE) (d : Int) : Option Operand → Option Int
  | none => some d
  | some x => match lookF E G x with
    | some (true, .int _ z) => some z
    | _ => none
theorem lookI_nat {E : Env} {G : List GE} {ρ : Operand → Value} (h : Rho E G ρ) {d z : Int} {x : Option Operand} {j : Nat} (e : lookI E G d x = some z) (hz : z = (j : Int)) :
    (x = none ∧ d = z ∧ natO (x.map ρ) = some none) ∨ natO (x.map ρ) = some (some j) := by
  cases x with
  | none => simp only [lookI, Option.some.injEq] at e; exact .inl ⟨rfl, e, rfl⟩
  | some o =>
    right
    simp only [lookI] at e
    cases h1 : lookF E G o with
    | none => simp [h1] at e
    | some p =>
      obtain ⟨r, v⟩ := p
      rw [h1] at e
      cases r with
      | false => cases v <;> simp at e
      | true =>
        cases v <;> simp at e
        rename_i kk w
        subst e hz
        simp only [Option.map_some, natO, h.u h1]
        rfl

theorem rowOf_sub {cs l : List Value} {i m k lo p : Nat} (h : rowOf cs i (m * k) = some l) (hlp : lo + p ≤ m) : rowOf cs (i + lo * k) (p * k) = some ((l.drop (lo * k)).take (p * k)) := by
  obtain ⟨e, hl⟩ := rowOf_eq h
  have h1 : lo * k + p * k ≤ m * k := by rw [← Nat.add_mul]; exact Nat.mul_le_mul_right _ hlp
  rw [rowOf_some (by omega), e]
  congr 1
  rw [List.drop_take, List.drop_drop, List.take_take, Nat.min_eq_left (by omega)]

/-- How a part's address stands to the whole's. -/
def SubA (a a' : Option Addr) (off len : Nat) : Prop := (∃ b i, a = some ⟨b, i, none⟩ ∧ a' = some ⟨b, i + off, none⟩) ∨ (len = 0 ∧ (a' = a ∨ a' = some voidA))
theorem sliceV_ok {k m code lo h : Nat} {a : Option Addr} (hc : CapOK k a m code) (hlh : lo ≤ h) (hhm : h ≤ m) {hin hlo : Option Nat} (e1 : hlo.getD 0 = lo) (e2 : hin.getD m = h) :
    ∃ a' code', sliceV k a m code hlo hin none = some (.slice a' (h - lo) code') ∧ CapOK k a' (h - lo) code' ∧ SubA a a' (lo * k) (h - lo) := by
  have tt : ∀ {x y : Nat}, x ≤ y → Nat.ble x y = true := fun h => Nat.ble_eq_true_of_le h
  unfold sliceV
  cases hc with
  | nil =>
    have h0 : h = 0 := by omega
    have l0 : lo = 0 := by omega
    subst h0 l0
    refine ⟨none, 1, ?_, .nil, .inr ⟨rfl, .inl rfl⟩⟩
    simp [capOf, sliceTo, e1, e2, mkSlice_eq, tt (Nat.le_refl 0)]
  | void0 =>
    have h0 : h = 0 := by omega
    have l0 : lo = 0 := by omega
    subst h0 l0
    refine ⟨some voidA, 0, ?_, .void0, .inr ⟨rfl, .inl rfl⟩⟩
    simp [capOf, sliceTo, e1, e2, mkSlice_eq, tt (Nat.le_refl 0)]
    rfl
  | voidO =>
    rename_i c
    have h0 : h = 0 := by omega
    have l0 : lo = 0 := by omega
    subst h0 l0
    refine ⟨some voidA, 2 * c + 1, ?_, .voidO, .inr ⟨rfl, .inl rfl⟩⟩
    rw [capOf_ex]
    simp only [sliceTo, e1, e2, mkSlice_eq, tt (Nat.zero_le c), tt (Nat.le_refl 0), Bool.and_true]
    cases Nat.beq c 0 <;> simp [addO, addA, voidA]
  | ex hm =>
    rename_i b i c
    rw [capOf_ex]
    simp only [sliceTo, e1, e2, mkSlice_eq, tt (show h ≤ c by omega), tt hlh, Bool.and_true]
    cases hb : Nat.beq c lo with
    | true =>
      have := Nat.eq_of_beq_eq_true hb
      refine ⟨_, _, rfl, ?_, .inr ⟨by omega, .inl rfl⟩⟩
      exact .ex (by omega)
    | false => exact ⟨some ⟨b, i + lo * k, none⟩, 2 * (c - lo) + 1, by simp [addO, addA, force_eq], .ex (by omega), .inl ⟨b, i, rfl, rfl⟩⟩
  | inx hm hk =>
    rename_i b i c
    rw [capOf_I hk]
    simp only [sliceTo, e1, e2, mkSlice_eq, tt (show h ≤ c by omega), tt hlh, Bool.and_true]
    cases hb : Nat.blt lo c with
    | true =>
      rw [Nat.blt_eq] at hb
      have e3 : Nat.beq (eszOf (codeI c k)) k = true := by rw [eszOf_I hk]; exact Nat.beq_refl _
      simp only [e3]
      exact ⟨some ⟨b, i + lo * k, none⟩, codeI (c - lo) k, by simp [addO, addA, force_eq], .inx (by omega) hk, .inl ⟨b, i, rfl, rfl⟩⟩
    | false =>
      have : ¬ lo < c := fun hlt => by rw [← Nat.blt_eq] at hlt; rw [hlt] at hb; cases hb
      have e0 : h - lo = 0 := by omega
      exact ⟨_, _, by rw [e0], by rw [e0]; exact .void0, .inr ⟨e0, .inr rfl⟩⟩
theorem Sl.sub {R : Nat → Prop} {n k m code lo h code' : Nat} {H : Tr AObj} {a a' : Option Addr} {l : List Value} (hs : Sl R n H k a m code l) (hlh : lo ≤ h) (hhm : h ≤ m) (hc : CapOK k a' (h - lo) code') (hsub : SubA a a' (lo * k) (h - lo)) :
    Sl R n H k a' (h - lo) code' ((l.drop (lo * k)).take ((h - lo) * k)) := by
  refine ⟨?_, hc⟩
  rcases hsub with ⟨b, i, rfl, rfl⟩ | ⟨h0, hsub⟩
  · have hr := hs.rd'
    cases hr with
    | row h1 h2 h3 h4 => exact .row h1 h2 h3 (rowOf_sub h4 (by omega))
  · rw [h0, Nat.zero_mul, List.take_zero]
    rcases hsub with rfl | rfl
    · have hr := hs.rd'
      cases hr with
      | nil => exact .nil
      | void => exact .void
      | row h1 h2 h3 h4 =>
        refine .row h1 h2 h3 (cs := _) ?_
        have := (rowOf_eq h4).2
        rw [Nat.zero_mul, rowOf_some (by omega)]
        simp
    · exact .void

section
variable {S : Sg} {E : Env} {G : List GE} {n : Nat} {H : Tr AObj} {K : List Kf} {ops rest : List Oper} {o : Oper} {d : Nat} {x y : Operand} {t : TypeId} {v : Value} {n0 : Nat} {is : List Info}
theorem p_slice {P : Program} {ρ : Operand → Value} {hRho : Rho E G ρ} {k m code : Nat} {a : Option Addr} {lo hi : Option Operand} {zl zh : Int} {l h : Nat} (hx : ρ x = .slice a m code) (hk : eltK P t = some k)
    (h1 : lookI E G 0 lo = some zl) (h2 : lookI E G (m : Int) hi = some zh) (e1 : zl = (l : Int)) (e2 : zh = (h : Int)) (hc : CapOK k a m code) (hlh : l ≤ h) (hhm : h ≤ m) :
    ∃ a' code', evOp P ρ (.slice t x lo hi none) = M.ret (.val (.slice a' (h - l) code')) ∧ CapOK k a' (h - l) code' ∧ SubA a a' (l * k) (h - l) := by
  obtain ⟨e, hu, hs⟩ := eltK_some hk
  have go : ∀ (q1 q2 : Option Nat), natO (lo.map ρ) = some q1 → natO (hi.map ρ) = some q2 → q1.getD 0 = l → q2.getD m = h → ∃ a' code', evOp P ρ (.slice t x lo hi none) = M.ret (.val (.slice a' (h - l) code')) ∧ CapOK k a' (h - l) code' ∧ SubA a a' (l * k) (h - l) := by
    intro q1 q2 n1 n2 g1 g2
    obtain ⟨a', code', w1, w2, w3⟩ := sliceV_ok hc hlh hhm g1 g2
    refine ⟨a', code', ?_, w2, w3⟩
    have n3 : natO ((none : Option Operand).map ρ) = some none := rfl
    simp only [evOp, opSlice, n1, n2, n3, sliceAny, hu, hx, hs, w1, optVal]
  rcases lookI_nat hRho h1 e1 with ⟨_, g1, n1⟩ | n1 <;> rcases lookI_nat hRho h2 e2 with ⟨_, g2, n2⟩ | n2
  · exact go _ _ n1 n2 (by simp; omega) (by simp; omega)
  · exact go _ _ n1 n2 (by simp; omega) rfl
  · exact go _ _ n1 n2 rfl (by simp; omega)
  · exact go _ _ n1 n2 rfl rfl
theorem go_slice {k m code : Nat} {a : Option Addr} {lo hi : Option Operand} {zl zh : Int} {l h : Nat} (hd : o.dst = some d) (hg : o.guard = none) (hn : Nat.blt d S.nt = true) (hG : GE.get G d = none) (ho : o.op = .slice t x lo hi none)
    (hx : lookF E G x = some (true, .slice a m code)) (hk : eltK S.P t = some k) (h1 : lookI E G 0 lo = some zl) (h2 : lookI E G (m : Int) hi = some zh) (e1 : zl = (l : Int)) (e2 : zh = (h : Int)) (hc : CapOK k a m code) (hlh : l ≤ h) (hhm : h ≤ m)
    (hq : ∀ a' code', CapOK k a' (h - l) code' → SubA a a' (l * k) (h - l) → GoO S none ops rest ((d, .slice a' (h - l) code') :: E) G n H K) : GoO S none ops (o :: rest) E G n H K := by
  refine go_step (fun _ => False) (fun _ => False) hd hg hn hG (fun _ _ h => h.elim) (fun _ _ h => h.elim) fun ρ hρ => ?_
  obtain ⟨a', code', w1, w2, w3⟩ := p_slice (hRho := hρ) (hρ.u hx) hk h1 h2 e1 e2 hc hlh hhm
  rw [ho]
  exact wp_val w1 (hq a' code' w2 w3)
theorem go_sliceD {k m code : Nat} {a : Option Addr} {lo hi : Option Operand} {zl zh : Int} {l h : Nat} (hd : o.dst = some d) (hg : o.guard = none) (hn : Nat.blt d S.nt = true) (hG : GE.get G d = none) (ho : o.op = .slice t x lo hi none)
    (hx : lookF E G x = some (true, .slice a m code)) (hk : eltK S.P t = some k) (h1 : lookI E G 0 lo = some zl) (h2 : lookI E G (m : Int) hi = some zh) (e1 : zl = (l : Int)) (e2 : zh = (h : Int)) (hc : CapOK k a m code) (hlh : l ≤ h) (hhm : h ≤ m)
    (hq : ∀ a' code', CapOK k a' (h - l) code' → SubA a a' (l * k) (h - l) → GoO S (some (n0, ⟨n, n, fun _ => False, fun _ => False⟩ :: is)) ops rest ((d, .slice a' (h - l) code') :: E) G n H K) : GoO S (some (n0, is)) ops (o :: rest) E G n H K := by
  refine go_step (fun _ => False) (fun _ => False) hd hg hn hG (fun _ _ h => h.elim) (fun _ _ h => h.elim) fun ρ hρ => ?_
  obtain ⟨a', code', w1, w2, w3⟩ := p_slice (hRho := hρ) (hρ.u hx) hk h1 h2 e1 e2 hc hlh hhm
  rw [ho]
  exact wp_val w1 (hq a' code' w2 w3)
theorem w_copy {c : Cx} {P : Program} {call : CallSem} {ρ : Operand → Value} {Q : Value → Nat → Tr AObj → Prop} {k m p code : Nat} {a : Option Addr} {cl : Call} {ts : List TypeId} {xv : Value} {new : List Value} (hc : cl.callee = .builtin .copy) (ha : cl.args.toList.map ρ = [.slice a m code, xv]) (ht : cl.argTypes.toList = t :: ts)
    (hk : eltK P t = some k) (hk1 : 1 ≤ k) (hl : lenV xv = some p) (hr : RdS c n H k xv (min p m) new) (hnl : new.length = min p m * k) (hno : new.all oneCell = true)
    (hw : min p m ≠ 0 → ∃ b i cs cs' old esz, a = some ⟨b, i, none⟩ ∧ b < n ∧ H.get b = some (.cells cs true old esz) ∧ (∀ o ∈ old, o < n ∧ o ≠ b ∧ H.get o ≠ none ∧ (o < c.n0 → c.W o)) ∧ putAt i new cs = some cs' ∧ (b < c.n0 → c.W b) ∧ Q (.int .i64 ((min p m : Nat) : Int)) n ((killed H old).set b (.cells cs' true [] esz)))
    (h0 : min p m = 0 → Q (.int .i64 0) n H) : Wp c (opV P call ρ (.call cl)) n H Q := by
  obtain ⟨e, hu, hs⟩ := eltK_some hk
  unfold opV
  have hop : evOp P ρ (.call cl) = asVal (copyV P t (.slice a m code) xv) := by
    simp only [evOp, opCall, hc, opBuiltin, ha, ht, builtinV]
  rw [hop]
  refine Wp.bnd (Wp.bnd ?_)
  have hmin : Nat.min p m = min p m := rfl
  simp only [copyV, hu, hl, hs, hmin]
  refine Wp.bnd (w_rdSlice hr ?_)
  by_cases hz : min p m = 0
  · have : new = [] := by
      cases new with
      | nil => rfl
      | cons x l => rw [hz] at hnl; simp at hnl
    subst this
    simp only [copyRow, mkInt_eq]
    refine Wp.opt rfl (Wp.ret (Wp.ret ?_))
    rw [hz]
    exact h0 hz
  · obtain ⟨b, i, cs, cs', old, esz, rfl, q1, q2, q3, q4, q5, q6⟩ := hw hz
    cases new with
    | nil =>
      have : 0 < min p m * k := Nat.mul_pos (by omega) hk1
      simp at hnl; omega
    | cons x l =>
      simp only [copyRow, mkInt_eq]
      exact Wp.bnd (Wp.wrRow' q1 q2 q3 q4 hno q5 (Wp.opt rfl (Wp.ret (Wp.ret q6))))
theorem go_copy {k m p code : Nat} {a : Option Addr} {cl : Call} {ts : List TypeId} {xv : Value} {new : List Value} (Wo : Nat → Prop) (X : Tr AObj → Prop) (hd : o.dst = some d) (hg : o.guard = none) (hn : Nat.blt d S.nt = true) (hG : GE.get G d = none) (ho : o.op = .call cl) (hc : cl.callee = .builtin .copy) (ha : lookL E G cl.args.toList = some [.slice a m code, xv]) (ht : cl.argTypes.toList = t :: ts)
    (hk : eltK S.P t = some k) (hk1 : 1 ≤ k) (hl : lenV xv = some p) (hr : RdS S.c n H k xv (min p m) new) (hnl : new.length = min p m * k) (hno : new.all oneCell = true)
    (haR : ∀ b, blkIs a b → b < S.c.n0 → S.c.W b) (hWo : ∀ b, Wo b → b < S.c.n0 → S.c.W b)
    (hw : min p m ≠ 0 → ∃ b i cs cs' old esz, a = some ⟨b, i, none⟩ ∧ b < n ∧ H.get b = some (.cells cs true old esz) ∧ (∀ o ∈ old, o < n ∧ o ≠ b ∧ H.get o ≠ none ∧ Wo o) ∧ putAt i new cs = some cs' ∧ X ((killed H old).set b (.cells cs' true [] esz)))
    (h0 : min p m = 0 → X H) (h : ∀ H', X H' → GoO S none ops rest ((d, .int .i64 ((min p m : Nat) : Int)) :: E) G n H' K) : GoO S none ops (o :: rest) E G n H K := by
  refine go_step (fun b => blkIs a b ∨ vblk xv b) (fun b => blkIs a b ∨ Wo b) hd hg hn hG (fun b h1 h2 => ?_) (fun b h1 h2 => ?_) fun ρ hρ => ?_
  · rcases h2 with h2 | h2
    · exact .inr (haR b h2 h1)
    · generalize min p m = q at hr
      cases hr with
      | row q1 q2 q3 q4 => cases h2; exact q2 h1
      | nil => exact h2.elim
      | void => exact h2.elim
      | str q => exact h2.elim
  · rcases h2 with h2 | h2
    · exact haR b h2 h1
    · exact hWo b h2 h1
  · rw [ho]
    have hr' : RdS ⟨n, fun b => blkIs a b ∨ vblk xv b, fun b => blkIs a b ∨ Wo b⟩ n H k xv (min p m) new := by
      generalize min p m = q at hr
      cases hr with
      | row q1 q2 q3 q4 => exact .row q1 (fun _ => .inl (.inr rfl)) q3 q4
      | nil => exact .nil
      | void => exact .void
      | str q => exact .str q
    refine w_copy hc (hρ.l ha) ht hk hk1 hl hr' hnl hno (fun hz => ?_) (fun hz => by first | exact h _ (h0 hz) | (rw [show ((min p m : Nat) : Int) = 0 by omega] at h; exact h _ (h0 hz)))
    obtain ⟨b, i, cs, cs', old, esz, rfl, q1, q2, q3, q4, q5⟩ := hw hz
    exact ⟨b, i, cs, cs', old, esz, rfl, q1, q2, fun o ho => ⟨(q3 o ho).1, (q3 o ho).2.1, (q3 o ho).2.2.1, fun _ => .inr (q3 o ho).2.2.2⟩, q4, fun _ => .inl rfl, h _ q5⟩
theorem go_copy0 {k m p code : Nat} {a : Option Addr} {cl : Call} {ts : List TypeId} {xv : Value} {new : List Value} (Wo : Nat → Prop) (X : Tr AObj → Prop) (hd : o.dst = none) (hg : o.guard = none) (ho : o.op = .call cl) (hc : cl.callee = .builtin .copy) (ha : lookL E G cl.args.toList = some [.slice a m code, xv]) (ht : cl.argTypes.toList = t :: ts)
    (hk : eltK S.P t = some k) (hk1 : 1 ≤ k) (hl : lenV xv = some p) (hr : RdS S.c n H k xv (min p m) new) (hnl : new.length = min p m * k) (hno : new.all oneCell = true)
    (haR : ∀ b, blkIs a b → b < S.c.n0 → S.c.W b) (hWo : ∀ b, Wo b → b < S.c.n0 → S.c.W b)
    (hw : min p m ≠ 0 → ∃ b i cs cs' old esz, a = some ⟨b, i, none⟩ ∧ b < n ∧ H.get b = some (.cells cs true old esz) ∧ (∀ o ∈ old, o < n ∧ o ≠ b ∧ H.get o ≠ none ∧ Wo o) ∧ putAt i new cs = some cs' ∧ X ((killed H old).set b (.cells cs' true [] esz)))
    (h0 : min p m = 0 → X H) (h : ∀ H', X H' → GoO S none ops rest E G n H' K) : GoO S none ops (o :: rest) E G n H K := by
  refine go_step0 (fun b => blkIs a b ∨ vblk xv b) (fun b => blkIs a b ∨ Wo b) hd hg (fun b h1 h2 => ?_) (fun b h1 h2 => ?_) fun ρ hρ => ?_
  · rcases h2 with h2 | h2
    · exact .inr (haR b h2 h1)
    · generalize min p m = q at hr
      cases hr with
      | row q1 q2 q3 q4 => cases h2; exact q2 h1
      | nil => exact h2.elim
      | void => exact h2.elim
      | str q => exact h2.elim
  · rcases h2 with h2 | h2
    · exact haR b h2 h1
    · exact hWo b h2 h1
  · rw [ho]
    have hr' : RdS ⟨n, fun b => blkIs a b ∨ vblk xv b, fun b => blkIs a b ∨ Wo b⟩ n H k xv (min p m) new := by
      generalize min p m = q at hr
      cases hr with
      | row q1 q2 q3 q4 => exact .row q1 (fun _ => .inl (.inr rfl)) q3 q4
      | nil => exact .nil
      | void => exact .void
      | str q => exact .str q
    refine w_copy hc (hρ.l ha) ht hk hk1 hl hr' hnl hno (fun hz => ?_) (fun hz => by first | exact h _ (h0 hz) | (rw [show ((min p m : Nat) : Int) = 0 by omega] at h; exact h _ (h0 hz)))
    obtain ⟨b, i, cs, cs', old, esz, rfl, q1, q2, q3, q4, q5⟩ := hw hz
    exact ⟨b, i, cs, cs', old, esz, rfl, q1, q2, fun o ho => ⟨(q3 o ho).1, (q3 o ho).2.1, (q3 o ho).2.2.1, fun _ => .inr (q3 o ho).2.2.2⟩, q4, fun _ => .inl rfl, h _ q5⟩
theorem go_copyD {k m p code : Nat} {a : Option Addr} {cl : Call} {ts : List TypeId} {xv : Value} {new : List Value} (Wo : Nat → Prop) (X : Tr AObj → Prop) (hd : o.dst = some d) (hg : o.guard = none) (hn : Nat.blt d S.nt = true) (hG : GE.get G d = none) (ho : o.op = .call cl) (hc : cl.callee = .builtin .copy) (ha : lookL E G cl.args.toList = some [.slice a m code, xv]) (ht : cl.argTypes.toList = t :: ts)
    (hk : eltK S.P t = some k) (hk1 : 1 ≤ k) (hl : lenV xv = some p) (hr : RdS S.c n H k xv (min p m) new) (hnl : new.length = min p m * k) (hno : new.all oneCell = true)
    (haR : ∀ b, blkIs a b → b < S.c.n0 → S.c.W b) (hWo : ∀ b, Wo b → b < S.c.n0 → S.c.W b)
    (hw : min p m ≠ 0 → ∃ b i cs cs' old esz, a = some ⟨b, i, none⟩ ∧ b < n ∧ H.get b = some (.cells cs true old esz) ∧ (∀ o ∈ old, o < n ∧ o ≠ b ∧ H.get o ≠ none ∧ Wo o) ∧ putAt i new cs = some cs' ∧ X ((killed H old).set b (.cells cs' true [] esz)))
    (h0 : min p m = 0 → X H) (h : ∀ H', X H' → GoO S (some (n0, ⟨n, n, fun b => blkIs a b ∨ vblk xv b, fun b => blkIs a b ∨ Wo b⟩ :: is)) ops rest ((d, .int .i64 ((min p m : Nat) : Int)) :: E) G n H' K) : GoO S (some (n0, is)) ops (o :: rest) E G n H K := by
  refine go_step (fun b => blkIs a b ∨ vblk xv b) (fun b => blkIs a b ∨ Wo b) hd hg hn hG (fun b h1 h2 => ?_) (fun b h1 h2 => ?_) fun ρ hρ => ?_
  · rcases h2 with h2 | h2
    · exact .inr (haR b h2 h1)
    · generalize min p m = q at hr
      cases hr with
      | row q1 q2 q3 q4 => cases h2; exact q2 h1
      | nil => exact h2.elim
      | void => exact h2.elim
      | str q => exact h2.elim
  · rcases h2 with h2 | h2
    · exact haR b h2 h1
    · exact hWo b h2 h1
  · rw [ho]
    have hr' : RdS ⟨n, fun b => blkIs a b ∨ vblk xv b, fun b => blkIs a b ∨ Wo b⟩ n H k xv (min p m) new := by
      generalize min p m = q at hr
      cases hr with
      | row q1 q2 q3 q4 => exact .row q1 (fun _ => .inl (.inr rfl)) q3 q4
      | nil => exact .nil
      | void => exact .void
      | str q => exact .str q
    refine w_copy hc (hρ.l ha) ht hk hk1 hl hr' hnl hno (fun hz => ?_) (fun hz => by first | exact h _ (h0 hz) | (rw [show ((min p m : Nat) : Int) = 0 by omega] at h; exact h _ (h0 hz)))
    obtain ⟨b, i, cs, cs', old, esz, rfl, q1, q2, q3, q4, q5⟩ := hw hz
    exact ⟨b, i, cs, cs', old, esz, rfl, q1, q2, fun o ho => ⟨(q3 o ho).1, (q3 o ho).2.1, (q3 o ho).2.2.1, fun _ => .inr (q3 o ho).2.2.2⟩, q4, fun _ => .inl rfl, h _ q5⟩
theorem go_copy0D {k m p code : Nat} {a : Option Addr} {cl : Call} {ts : List TypeId} {xv : Value} {new : List Value} (Wo : Nat → Prop) (X : Tr AObj → Prop) (hd : o.dst = none) (hg : o.guard = none) (ho : o.op = .call cl) (hc : cl.callee = .builtin .copy) (ha : lookL E G cl.args.toList = some [.slice a m code, xv]) (ht : cl.argTypes.toList = t :: ts)
    (hk : eltK S.P t = some k) (hk1 : 1 ≤ k) (hl : lenV xv = some p) (hr : RdS S.c n H k xv (min p m) new) (hnl : new.length = min p m * k) (hno : new.all oneCell = true)
    (haR : ∀ b, blkIs a b → b < S.c.n0 → S.c.W b) (hWo : ∀ b, Wo b → b < S.c.n0 → S.c.W b)
    (hw : min p m ≠ 0 → ∃ b i cs cs' old esz, a = some ⟨b, i, none⟩ ∧ b < n ∧ H.get b = some (.cells cs true old esz) ∧ (∀ o ∈ old, o < n ∧ o ≠ b ∧ H.get o ≠ none ∧ Wo o) ∧ putAt i new cs = some cs' ∧ X ((killed H old).set b (.cells cs' true [] esz)))
    (h0 : min p m = 0 → X H) (h : ∀ H', X H' → GoO S (some (n0, ⟨n, n, fun b => blkIs a b ∨ vblk xv b, fun b => blkIs a b ∨ Wo b⟩ :: is)) ops rest E G n H' K) : GoO S (some (n0, is)) ops (o :: rest) E G n H K := by
  refine go_step0 (fun b => blkIs a b ∨ vblk xv b) (fun b => blkIs a b ∨ Wo b) hd hg (fun b h1 h2 => ?_) (fun b h1 h2 => ?_) fun ρ hρ => ?_
  · rcases h2 with h2 | h2
    · exact .inr (haR b h2 h1)
    · generalize min p m = q at hr
      cases hr with
      | row q1 q2 q3 q4 => cases h2; exact q2 h1
      | nil => exact h2.elim
      | void => exact h2.elim
      | str q => exact h2.elim
  · rcases h2 with h2 | h2
    · exact haR b h2 h1
    · exact hWo b h2 h1
  · rw [ho]
    have hr' : RdS ⟨n, fun b => blkIs a b ∨ vblk xv b, fun b => blkIs a b ∨ Wo b⟩ n H k xv (min p m) new := by
      generalize min p m = q at hr
      cases hr with
      | row q1 q2 q3 q4 => exact .row q1 (fun _ => .inl (.inr rfl)) q3 q4
      | nil => exact .nil
      | void => exact .void
      | str q => exact .str q
    refine w_copy hc (hρ.l ha) ht hk hk1 hl hr' hnl hno (fun hz => ?_) (fun hz => by first | exact h _ (h0 hz) | (rw [show ((min p m : Nat) : Int) = 0 by omega] at h; exact h _ (h0 hz)))
    obtain ⟨b, i, cs, cs', old, esz, rfl, q1, q2, q3, q4, q5⟩ := hw hz
    exact ⟨b, i, cs, cs', old, esz, rfl, q1, q2, fun o ho => ⟨(q3 o ho).1, (q3 o ho).2.1, (q3 o ho).2.2.1, fun _ => .inr (q3 o ho).2.2.2⟩, q4, fun _ => .inl rfl, h _ q5⟩
theorem go_callG {cl : Call} {f : Operand} {fid : FuncId} {first cap : Array Value} {args args' : List Value} {j dj : Nat} {gw r p r0 : Bool} (R : Nat → Prop) (hd : o.dst = some d) (hg : o.guard = some (j, gw)) (hj : dstOf ops j = some dj) (hl : lookF E G (.tmp dj) = some (r, .bool p)) (h0 : r0 = (r && (p == gw))) (hn : Nat.blt d S.nt = true) (hE : Env.get E d = none) (hG : GE.get G d = none)
    (ho : o.op = .call cl) (hc : cl.callee = .value f) (hf : lookF E G f = some (true, .func (.func fid) first cap)) (ha : r0 = true → ∀ ρ, Rho E G ρ → cl.args.toList.map ρ = args) (he : first.toList ++ args ++ cap.toList = args')
    (hspec : r0 = true → Wp ⟨n, R, fun _ => False⟩ (S.call fid args' none) n H fun o n' H' => ∃ v', o = .ret v' false ∧ v' = v ∧ n' = n ∧ H' = H)
    (hR : ∀ b, b < S.c.n0 → R b → S.c.R b ∨ S.c.W b)
    (h : GoO S none ops rest E (⟨d, r0, v⟩ :: G) n H K) : GoO S none ops (o :: rest) E G n H K := by
  refine go_gstep R hd hg hj hl h0 hn hE hG hR (fun hr ρ hρ => ?_) h
  rw [ho]
  exact w_call hc (hρ.u hf) (ha hr ρ hρ) he (hspec hr)
theorem go_callGD {cl : Call} {f : Operand} {fid : FuncId} {first cap : Array Value} {args args' : List Value} {j dj : Nat} {gw r p r0 : Bool} (R : Nat → Prop) (hd : o.dst = some d) (hg : o.guard = some (j, gw)) (hj : dstOf ops j = some dj) (hl : lookF E G (.tmp dj) = some (r, .bool p)) (h0 : r0 = (r && (p == gw))) (hn : Nat.blt d S.nt = true) (hE : Env.get E d = none) (hG : GE.get G d = none)
    (ho : o.op = .call cl) (hc : cl.callee = .value f) (hf : lookF E G f = some (true, .func (.func fid) first cap)) (ha : r0 = true → ∀ ρ, Rho E G ρ → cl.args.toList.map ρ = args) (he : first.toList ++ args ++ cap.toList = args')
    (hspec : r0 = true → Wp ⟨n, R, fun _ => False⟩ (S.call fid args' none) n H fun o n' H' => ∃ v', o = .ret v' false ∧ v' = v ∧ n' = n ∧ H' = H)
    (hR : ∀ b, b < S.c.n0 → R b → S.c.R b ∨ S.c.W b)
    (h : GoO S (some (n0, ⟨n, n, R, fun _ => False⟩ :: is)) ops rest E (⟨d, r0, v⟩ :: G) n H K) : GoO S (some (n0, is)) ops (o :: rest) E G n H K := by
  refine go_gstep R hd hg hj hl h0 hn hE hG hR (fun hr ρ hρ => ?_) h
  rw [ho]
  exact w_call hc (hρ.u hf) (ha hr ρ hρ) he (hspec hr)
end
end Go.Shade

/- Unsigned arithmetic on natural numbers. -/
namespace Go.Shade
set_option linter.unusedVariables false
section
variable {k : IntKind} {a b c : Nat} {za zb : Int}
theorem wrap_lt (hs : k.signed = false) (h : a < 2 ^ k.bits) : k.wrap (a : Int) = (a : Int) := by
  cases k <;> simp [IntKind.signed] at hs <;> simp [IntKind.wrap, IntKind.bits, IntKind.signed] at * <;> omega
theorem wrap_nat (hs : k.signed = false) : k.wrap (a : Int) = ((a % 2 ^ k.bits : Nat) : Int) := by
  cases k <;> simp [IntKind.signed] at hs <;> simp [IntKind.wrap, IntKind.bits, IntKind.signed]
theorem u_add (ha : za = (a : Int)) (hb : zb = (b : Int)) (hs : k.signed = false) (h : a + b < 2 ^ k.bits) : intOp .add k za zb = some (.int k ((a + b : Nat) : Int)) := by
  subst ha hb
  exact i_add' (by rw [← Int.natCast_add]; exact wrap_lt hs h)
theorem u_addw (ha : za = (a : Int)) (hb : zb = (b : Int)) (hs : k.signed = false) : intOp .add k za zb = some (.int k (((a + b) % 2 ^ k.bits : Nat) : Int)) := by
  subst ha hb
  exact i_add' (by rw [← Int.natCast_add]; exact wrap_nat hs)
theorem u_sub (ha : za = (a : Int)) (hb : zb = (b : Int)) (hs : k.signed = false) (h : b ≤ a) (h2 : a < 2 ^ k.bits) : intOp .sub k za zb = some (.int k ((a - b : Nat) : Int)) := by
  subst ha hb
  exact i_sub' (by rw [← Int.ofNat_sub h]; exact wrap_lt hs (by omega))
theorem u_mul (ha : za = (a : Int)) (hb : zb = (b : Int)) (hs : k.signed = false) (h : a * b < 2 ^ k.bits) : intOp .mul k za zb = some (.int k ((a * b : Nat) : Int)) := by
  subst ha hb
  exact i_mul' (by rw [← Int.natCast_mul]; exact wrap_lt hs h)
theorem u_mulw (ha : za = (a : Int)) (hb : zb = (b : Int)) (hs : k.signed = false) : intOp .mul k za zb = some (.int k (((a * b) % 2 ^ k.bits : Nat) : Int)) := by
  subst ha hb
  exact i_mul' (by rw [← Int.natCast_mul]; exact wrap_nat hs)
theorem u_quo (ha : za = (a : Int)) (hb : zb = (b : Int)) (hs : k.signed = false) (h : b ≠ 0) (h2 : a < 2 ^ k.bits) : intOp .quo k za zb = some (.int k ((a / b : Nat) : Int)) := by
  subst ha hb
  refine i_quo (by omega) ?_
  exact wrap_lt (a := a / b) hs (Nat.lt_of_le_of_lt (Nat.div_le_self _ _) h2)
theorem u_rem (ha : za = (a : Int)) (hb : zb = (b : Int)) (hs : k.signed = false) (h : b ≠ 0) : intOp .rem k za zb = some (.int k ((a % b : Nat) : Int)) := by
  subst ha hb
  exact i_rem (by omega) rfl
theorem bv_nat (h : a < 2 ^ k.bits) : (BitVec.ofInt k.bits (a : Int)).toNat = a := by
  rw [BitVec.ofInt_natCast, BitVec.toNat_ofNat, Nat.mod_eq_of_lt h]
theorem u_and (ha : za = (a : Int)) (hb : zb = (b : Int)) (hs : k.signed = false) (h1 : a < 2 ^ k.bits) (h2 : b < 2 ^ k.bits) (h : a &&& b = c) : intOp .and k za zb = some (.int k (c : Int)) := by
  subst ha hb h
  refine i_and' ?_
  rw [BitVec.toNat_and, bv_nat h1, bv_nat h2]
  exact wrap_lt hs (Nat.lt_of_le_of_lt Nat.and_le_left h1)
theorem u_or (ha : za = (a : Int)) (hb : zb = (b : Int)) (hs : k.signed = false) (h1 : a < 2 ^ k.bits) (h2 : b < 2 ^ k.bits) (h : a ||| b = c) : intOp .or k za zb = some (.int k (c : Int)) := by
  subst ha hb h
  refine i_or' ?_
  rw [BitVec.toNat_or, bv_nat h1, bv_nat h2]
  exact wrap_lt hs (Nat.or_lt_two_pow h1 h2)
theorem u_xor (ha : za = (a : Int)) (hb : zb = (b : Int)) (hs : k.signed = false) (h1 : a < 2 ^ k.bits) (h2 : b < 2 ^ k.bits) (h : a ^^^ b = c) : intOp .xor k za zb = some (.int k (c : Int)) := by
  subst ha hb h
  rw [i_xor, BitVec.toNat_xor, bv_nat h1, bv_nat h2, wrap_lt hs (Nat.xor_lt_two_pow h1 h2)]
theorem u_shr (ha : za = (a : Int)) (hb : zb = (b : Int)) (h : b ≤ k.bits) : shiftOp false k za zb = some (.int k ((a / 2 ^ b : Nat) : Int)) := by
  subst ha
  exact s_shr' hb h
theorem u_shl (ha : za = (a : Int)) (hb : zb = (b : Int)) (h : b ≤ k.bits) (hs : k.signed = false) (h2 : a * 2 ^ b < 2 ^ k.bits) : shiftOp true k za zb = some (.int k ((a * 2 ^ b : Nat) : Int)) := by
  subst ha
  exact s_shl' hb h (wrap_lt hs h2)
end
theorem or128 {a : Nat} (h : a < 256) : a ||| 128 = a % 128 + 128 := by
  have : ∀ x : Fin 256, x.val ||| 128 = x.val % 128 + 128 := by decide +kernel
  exact this ⟨a, h⟩
theorem and127 {a : Nat} : a &&& 127 = a % 128 := Nat.and_two_pow_sub_one_eq_mod a 7
end Go.Shade

/- A call that was run by itself stands in for itself in every run: the evaluator with one call laid. -/
namespace Go.Shade
open Go.RowKit
set_option linter.unusedVariables false

abbrev Tab := List (IntKind × Int)
def valsT (t : Tab) : List Value := t.map fun p => .int p.1 p.2
def eqCells : List Value → Tab → Bool
  | [], [] => true
  | .int k z :: l, (k', z') :: t => decide (k = k') && decide (z = z') && eqCells l t
  | _, _ => false
theorem eqCells_eq : ∀ {l : List Value} {t : Tab}, eqCells l t = true → l = valsT t
  | [], [], _ => rfl
  | [], _ :: _, h => by simp [eqCells] at h
  | v :: l, [], h => by cases v <;> simp [eqCells] at h
  | v :: l, (k', z') :: t, h => by
    cases v <;> simp [eqCells] at h
    obtain ⟨⟨rfl, rfl⟩, h3⟩ := h
    simp [valsT, eqCells_eq h3]
theorem eqCells_refl : ∀ t : Tab, eqCells (valsT t) t = true
  | [] => rfl
  | (k, z) :: t => by simp only [valsT, List.map_cons, eqCells]; simp; exact eqCells_refl t

def chkTab (t : Tab) : AObj → Option (Unit × Option AObj)
  | .cells cs _ _ _ => match eqCells cs t with
    | true => some ((), none)
    | false => none
  | _ => none
/-- Look whether the tables lie as they were laid. -/
def ovr : List (Nat × Tab) → M Unit
  | [] => M.ret ()
  | (b, t) :: l => M.bnd (touch b (chkTab t)) fun _ => ovr l
theorem ovr_some : ∀ {l : List (Nat × Tab)} {s s' : S} {u : Unit}, ovr l s = some (u, s') → s'.n = s.n ∧ s'.H = s.H ∧ ∀ b t, (b, t) ∈ l → ∃ rw old esz, s.H.get b = some (.cells (valsT t) rw old esz)
  | [], s, s', u, h => by
    obtain ⟨_, rfl⟩ := M.ret_some h
    exact ⟨rfl, rfl, by simp⟩
  | (b, t) :: l, s, s', u, h => by
    obtain ⟨_, s1, h1, h2⟩ := M.bnd_some h
    obtain ⟨n, H, lim, log⟩ := s
    obtain ⟨x, hx, hh⟩ := touch_some h1
    have hc : ∃ rw old esz, x = .cells (valsT t) rw old esz ∧ chkTab t x = some ((), none) := by
      cases x with
      | cells cs rw old esz =>
        have e : ∀ r, chkTab t (.cells cs rw old esz) = some r → cs = valsT t ∧ r = ((), none) := by
          intro r hr
          simp only [chkTab] at hr
          cases hq : eqCells cs t with
          | true => rw [hq] at hr; cases hr; exact ⟨eqCells_eq hq, rfl⟩
          | false => rw [hq] at hr; cases hr
        rcases hh with ⟨hf, _⟩ | ⟨y, hf, _⟩
        · obtain ⟨rfl, _⟩ := e _ hf; exact ⟨rw, old, esz, rfl, hf⟩
        · obtain ⟨_, q⟩ := e _ hf; cases q
      | iter => rcases hh with ⟨hf, _⟩ | ⟨y, hf, _⟩ <;> simp [chkTab] at hf
      | map => rcases hh with ⟨hf, _⟩ | ⟨y, hf, _⟩ <;> simp [chkTab] at hf
      | dead => rcases hh with ⟨hf, _⟩ | ⟨y, hf, _⟩ <;> simp [chkTab] at hf
    obtain ⟨rw, old, esz, rfl, hch⟩ := hc
    have hs1 : s1 = ⟨n, H, lim, note b lim log false⟩ := by
      rcases hh with ⟨_, e⟩ | ⟨y, hf, _⟩
      · exact e
      · rw [hch] at hf; cases hf
    subst hs1
    obtain ⟨e1, e2, e3⟩ := ovr_some h2
    refine ⟨e1, e2, fun b' t' hb => ?_⟩
    rcases List.mem_cons.1 hb with hb | hb
    · cases hb; exact ⟨rw, old, esz, hx⟩
    · exact e3 b' t' hb
theorem Local.ovr : ∀ l : List (Nat × Tab), Local (ovr l)
  | [] => Local.ret _
  | (b, t) :: l => Local.bnd (Local.touch _ _) fun _ => Local.ovr l
theorem Mono.ovr : ∀ l : List (Nat × Tab), Mono (ovr l)
  | [] => Mono.ret _
  | (b, t) :: l => Mono.bnd (Mono.touch _ _) fun _ => Mono.ovr l

/-- The tables alone, as a heap. -/
def heapOf : List (Nat × Tab) → Tr AObj
  | [] => .nil
  | (b, t) :: l => (heapOf l).set b (.cells (valsT t) false [] 0)
theorem heapOf_get : ∀ {l : List (Nat × Tab)} {b : Nat} {x : AObj}, (heapOf l).get b = some x → ∃ t, (b, t) ∈ l ∧ x = .cells (valsT t) false [] 0
  | [], b, x, h => by simp [heapOf, Tr.get_nil] at h
  | (b', t) :: l, b, x, h => by
    simp only [heapOf, Tr.get_set] at h
    split at h
    · rename_i e; subst e; cases h; exact ⟨t, by simp, rfl⟩
    · obtain ⟨t', h1, h2⟩ := heapOf_get h
      exact ⟨t', by simp [h1], h2⟩

theorem HRel.below {m : Mp} {H : Tr AObj} {w w' : World} {base : Nat} (h : HRel m H w base) (hb : Below w.heap.size w w') : HRel m H w' base := by
  have same : ∀ k o, w.heap[k]? = some o → w'.heap[k]? = some o := fun k o e => by
    rw [hb.block k (Array.getElem?_eq_some_iff.1 e).1]; exact e
  refine ⟨Nat.le_trans h.bs hb.size, fun b cs rw old esz hg => ?_, fun b s pos hg => ?_, fun b es hg => ?_, h.sep, h.ends, h.olds, h.ro⟩
  · obtain ⟨l, c, e, fz, h1, h2, h3, h4⟩ := h.cells b cs rw old esz hg
    exact ⟨l, c, e, fz, h1, h2, same _ _ h3, h4⟩
  · obtain ⟨l, h1, h2, h3, h4⟩ := h.iter b s pos hg
    exact ⟨l, h1, h2, h3, same _ _ h4⟩
  · obtain ⟨l, ces, clock, h1, h2, h3, h4⟩ := h.map b es hg
    exact ⟨l, ces, clock, h1, h2, same _ _ h3, h4⟩

structure Ov (P : Program) where
  f0 : FuncId
  tabs : List (Nat × Tab)
  outer : FuncId → Bool
  D : Nat

/-- What was run by itself. -/
def Ov.Ran {P : Program} (o : Ov P) (lf : Nat) : Prop := (∀ b t, (b, t) ∈ o.tabs → b < P.globals.size) ∧ ((evF P lf o.D o.f0 [] none ⟨P.globals.size, heapOf o.tabs, 0, []⟩).map fun r => r.1) = some (.ret (.bool true) false)

def isNil {α : Type} : List α → Bool
  | [] => true
  | _ :: _ => false
def isNone' {α : Type} : Option α → Bool
  | none => true
  | some _ => false
def ovCall {P : Program} (o : Ov P) (call : CallSem) : CallSem := fun f args pan => match Nat.beq f o.f0 && isNil args && isNone' pan with
  | true => M.bnd (ovr o.tabs) fun _ => M.ret (.ret (.bool true) false)
  | false => call f args pan
def evO {P : Program} (o : Ov P) (lf : Nat) : Nat → CallSem
  | 0 => evF P lf o.D
  | d + 1 => ovCall o fun f args pan => match o.outer f with
    | true => match P.funcs[f]? with
      | some fn => enterF P (evO o lf d) lf fn args pan
      | none => M.fail
    | false => evF P lf o.D f args pan

section
variable {P : Program} (o : Ov P)
theorem Local.enterF' {call : CallSem} (hc : LocalCall call) (lf : Nat) (fn : Func) (args : List Value) (pan : Option Value) : Local (enterF P call lf fn args pan) := by
  unfold enterF
  split
  · exact Local.bnd (Local.evC P hc lf _ _) fun r => Local.leave P hc _ r
  · exact Local.fail
theorem Mono.enterF' {call : CallSem} (hc : MonoCall call) (lf : Nat) (fn : Func) (args : List Value) (pan : Option Value) : Mono (enterF P call lf fn args pan) := by
  unfold enterF
  split
  · exact Mono.bnd (Mono.evC P hc lf _ _) fun r => Mono.leave P hc _ r
  · exact Mono.fail
theorem Local.ovCall {call : CallSem} (hc : LocalCall call) : LocalCall (ovCall o call) := by
  intro f args pan
  unfold Shade.ovCall
  split
  · exact Local.bnd (Local.ovr _) fun _ => Local.ret _
  · exact hc f args pan
theorem Mono.ovCall {call : CallSem} (hc : MonoCall call) : MonoCall (ovCall o call) := by
  intro f args pan
  unfold Shade.ovCall
  split
  · exact Mono.bnd (Mono.ovr _) fun _ => Mono.ret _
  · exact hc f args pan
theorem Local.evO (lf : Nat) : ∀ d, LocalCall (evO o lf d)
  | 0 => Local.evF P lf o.D
  | d + 1 => Local.ovCall o fun f args pan => by
    split
    · split
      · exact Local.enterF' (Local.evO lf d) lf _ _ _
      · exact Local.fail
    · exact Local.evF P lf o.D f args pan
theorem Mono.evO (lf : Nat) : ∀ d, MonoCall (evO o lf d)
  | 0 => Mono.evF P lf o.D
  | d + 1 => Mono.ovCall o fun f args pan => by
    split
    · split
      · exact Mono.enterF' (Mono.evO lf d) lf _ _ _
      · exact Mono.fail
    · exact Mono.evF P lf o.D f args pan

theorem callOK_ov (pok : ProgOK P) {base lf : Nat} (hr : o.Ran lf) {call : CallSem} (hc : CallOK P base call) : CallOK P base (ovCall o call) := by
  obtain ⟨r, hr1, hr2⟩ := Option.map_eq_some_iff.1 hr.2
  obtain ⟨ro, s1⟩ := r
  simp only [] at hr2
  subst hr2
  refine ⟨fun f args pan r s e => ?_, fun f args pan r s s' m w args' p' e hf h hG ha hp => ?_⟩
  · unfold Shade.ovCall at e
    cases hq : (Nat.beq f o.f0 && isNil args && isNone' pan) with
    | false => rw [hq] at e; exact hc.code f args pan r s e
    | true =>
      simp only [Bool.and_eq_true] at hq
      have := Nat.eq_of_beq_eq_true hq.1.1
      subst this
      exact (callOK_evF pok 0 lf o.D).code _ _ _ _ _ hr1
  · unfold Shade.ovCall at e
    cases hq : (Nat.beq f o.f0 && isNil args && isNone' pan) with
    | false => rw [hq] at e; exact hc.run f args pan r s s' m w args' p' e hf h hG ha hp
    | true =>
      rw [hq] at e
      simp only [Bool.and_eq_true] at hq
      obtain ⟨⟨q1, q2⟩, q3⟩ := hq
      have := Nat.eq_of_beq_eq_true q1
      subst this
      have hargs : args = [] := by cases args <;> simp [isNil] at q2 ⊢
      have hpan : pan = none := by cases pan <;> simp [isNone'] at q3 ⊢
      subst hargs hpan
      obtain ⟨u, s2, e1, e2⟩ := M.bnd_some e
      obtain ⟨e3, e4, e5⟩ := ovr_some e1
      obtain ⟨rfl, rfl⟩ := M.ret_some e2
      let m0 : Mp := fun b => if b < P.globals.size then (m b).map fun l => { l with esz := 0 } else none
      have hG0 : Glob P m0 := by
        intro g hg
        obtain ⟨l, a, b, c⟩ := hG g hg
        exact ⟨{ l with esz := 0 }, by simp [m0, hg, a], b, c⟩
      have hinit : HRel m0 (heapOf o.tabs) w w.heap.size := by
        refine HRel.init fun b x hb => ?_
        obtain ⟨t, ht, rfl⟩ := heapOf_get hb
        obtain ⟨rw, old, esz, hs⟩ := e5 b t ht
        obtain ⟨l, c, e', fz, a1, a2, a3, a4, a5, a6, _⟩ := h.cells _ _ _ _ _ hs
        have hbl := hr.1 b t ht
        refine ⟨_, _, { l with esz := 0 }, c, e', fz, rfl, by simp [m0, hbl, a1], rfl, a3, a4, a5, fun i v hv => ?_⟩
        obtain ⟨v', k1, k2⟩ := a6 i v hv
        refine ⟨v', k1, ?_⟩
        have : ∃ k z, v = .int k z := by
          unfold valsT at hv
          rw [List.getElem?_map] at hv
          cases hti : t[i]? with
          | none => rw [hti] at hv; cases hv
          | some p => rw [hti] at hv; cases hv; exact ⟨_, _, rfl⟩
        obtain ⟨k, z, rfl⟩ := this
        cases k2 with
        | atom q => exact .atom rfl
      have hfr : Fresh m0 P.globals.size s1.n := fun b h1 _ => by simp only [m0]; rw [if_neg (by omega)]
      have hp' : p' = none := by
        rcases hp with ⟨_, _, h⟩ | ⟨v, v', h, _⟩ | ⟨_, h, _⟩
        · exact h
        · cases h
        · cases h
      subst hp'
      have ha0 : VRelL m0 [] args'.toList := by
        have hl := ha.length
        have : args'.toList = [] := List.length_eq_zero_iff.1 hl.symm
        rw [this]; exact .nil
      obtain ⟨m', w', st, out⟩ := (callOK_evF pok w.heap.size lf o.D).run o.f0 [] none _ _ _ m0 w args' none hr1 hfr hinit hG0 ha0 (.inl ⟨rfl, rfl, rfl⟩)
      obtain ⟨v', hv, k1, k2⟩ := out
      have hv := hv.bool_inv
      subst hv
      refine ⟨m, w', ⟨?_, ?_, ?_⟩, .bool true, .atom rfl, k1, k2⟩
      · exact Ext.refl _ _ _
      · rw [e4]; exact h.below st.below
      · exact ⟨st.below.os, st.below.tape, st.below.output, st.below.size, fun k hk => st.below.block k (Nat.lt_of_lt_of_le hk h.bs)⟩
theorem callOK_evO (pok : ProgOK P) (base lf : Nat) (hr : o.Ran lf) : ∀ d, CallOK P base (evO o lf d)
  | 0 => callOK_evF pok base lf o.D
  | d + 1 => by
    refine callOK_ov o pok hr ⟨fun f args pan r s e => ?_, fun f args pan r s s' m w args' p' e hf h hG ha hp => ?_⟩
    · cases ho : o.outer f with
      | false => simp only [ho] at e; exact (callOK_evF pok base lf o.D).code f args pan r s e
      | true =>
        simp only [ho] at e
        cases hfn : P.funcs[f]? with
        | none => rw [hfn] at e; exact (M.fail_some (b := r.1) (s := s) (s' := r.2) e).elim
        | some fn =>
          rw [hfn] at e
          simp only [enterF] at e
          cases hb : fn.body with
          | none => rw [hb] at e; exact (M.fail_some (b := r.1) (s := s) (s' := r.2) e).elim
          | some c => exact ⟨fn, c, rfl, hb, (pok.code f fn c hfn hb).1⟩
    · cases ho : o.outer f with
      | false => simp only [ho] at e; exact (callOK_evF pok base lf o.D).run f args pan r s s' m w args' p' e hf h hG ha hp
      | true =>
        simp only [ho] at e
        cases hfn : P.funcs[f]? with
        | none => rw [hfn] at e; exact (M.fail_some (s := s) e).elim
        | some fn =>
          rw [hfn] at e
          exact sim_enter pok (callOK_evO pok base lf hr d) (Mono.evO o lf d) (Local.evO o lf d) lf hfn e hf h hG ha hp

/-- THE BRIDGE, with the call laid. -/
theorem calls_of_evO (pok : ProgOK P) {lf d f n lim : Nat} (hr : o.Ran lf) {args : List Value} {args' : Array Value} {H : Tr AObj} {log : List Acc} {b : Bool} {recd : Bool} {s' : S} (e : evO o lf d f args none ⟨n, H, lim, log⟩ = some (.ret (.bool b) recd, s'))
    {W : World} {m : Mp} (h : HRel m H W W.heap.size) (hG : Glob P m) (hf : ∀ b, n ≤ b → m b = none) (ha : VRelL m args args'.toList) :
    Calls P f args' W fun e w' => e = .returned (.bool b) ∧ Below W.heap.size W w' := by
  have hfr : Fresh m n s'.n := fun b hb _ => hf b hb
  obtain ⟨m', w', st, v', hv, _, hrun⟩ := (callOK_evO o pok W.heap.size lf hr d).run f args none _ _ _ m W args' none e hfr h hG ha (.inl ⟨rfl, rfl, rfl⟩)
  intro cs
  obtain ⟨fr, hs, h1, h2, h3, h4, fn, h5, h6⟩ := hrun .normal cs (.inl ⟨rfl, rfl⟩)
  have hcs : csOf none recd cs = cs := by cases recd <;> rfl
  rw [hcs] at hs
  exact ⟨.returned v', w', fr, ⟨by rw [hv.bool_inv], st.below⟩, hs, h1, h3, h4, h2, fn, by rw [h1]; exact h5, h6⟩
end
end Go.Shade

/- More rules under guards; the rules where one call is laid. Written by wip/shade/gen_wj.py. -/
namespace Go.Shade
set_option linter.unusedVariables false
def lookLG (E : Env) (G : List GE) : List Operand → Option (List (Bool × Value))
  | [] => some []
  | x :: xs => match lookF E G x with
    | some p => match lookLG E G xs with
      | some ps => some (p :: ps)
      | none => none
    | none => none
theorem Rho.lg {E : Env} {G : List GE} {ρ : Operand → Value} (h : Rho E G ρ) : ∀ {xs : List Operand} {ps : List (Bool × Value)}, lookLG E G xs = some ps → (∀ p ∈ ps, p.1 = true) → xs.map ρ = ps.map (·.2)
  | [], ps, e, _ => by simp only [lookLG, Option.some.injEq] at e; simp [← e]
  | x :: xs, ps, e, hp => by
    simp only [lookLG] at e
    cases h1 : lookF E G x with
    | none => simp [h1] at e
    | some p =>
      simp only [h1] at e
      cases h2 : lookLG E G xs with
      | none => simp [h2] at e
      | some qs =>
        simp only [h2, Option.some.injEq] at e
        subst e
        obtain ⟨r, v⟩ := p
        simp only [List.map_cons]
        rw [h.g h1 (hp (r, v) (by simp)), h.lg h2 fun q hq => hp q (by simp [hq])]
section
variable {S : Sg} {E : Env} {G : List GE} {n : Nat} {H : Tr AObj} {K : List Kf} {ops rest : List Oper} {o : Oper} {d : Nat} {x y z : Operand} {t s : TypeId} {u v w : Value} {n0 : Nat} {is : List Info}
theorem go_lenG {c : Call} {ts : List TypeId} {r1 : Bool} {m code : Nat} {a : Option Addr} {e : TypeId} {j dj : Nat} {gw r p r0 : Bool} (hd : o.dst = some d) (hg : o.guard = some (j, gw)) (hj : dstOf ops j = some dj) (hl : lookF E G (.tmp dj) = some (r, .bool p)) (h0 : r0 = (r && (p == gw))) (hn : Nat.blt d S.nt = true) (hE : Env.get E d = none) (hG : GE.get G d = none) (ho : o.op = .call c) (hc : c.callee = .builtin .len) (hx : c.args.toList = [x]) (h1 : lookF E G x = some (r1, .slice a m code)) (i1 : r0 = true → r1 = true) (ht : c.argTypes.toList = t :: ts) (hu : S.P.underlying t = some (.slice e))
    (h : GoO S none ops rest E (⟨d, r0, .int .i64 (m : Int)⟩ :: G) n H K) : GoO S none ops (o :: rest) E G n H K :=
  go_gstep (fun _ => False) hd hg hj hl h0 hn hE hG (fun _ _ h => h.elim) (fun hr ρ hρ => by rw [ho]; exact wp_val (p_len hc (by rw [hx]; exact congrArg (fun v => [v]) (hρ.g h1 (i1 hr))) ht hu) ⟨rfl, rfl, rfl⟩) h
theorem go_lenSG {c : Call} {ts : List TypeId} {r1 : Bool} {bs : ByteArray} {j dj : Nat} {gw r p r0 : Bool} (hd : o.dst = some d) (hg : o.guard = some (j, gw)) (hj : dstOf ops j = some dj) (hl : lookF E G (.tmp dj) = some (r, .bool p)) (h0 : r0 = (r && (p == gw))) (hn : Nat.blt d S.nt = true) (hE : Env.get E d = none) (hG : GE.get G d = none) (ho : o.op = .call c) (hc : c.callee = .builtin .len) (hx : c.args.toList = [x]) (h1 : lookF E G x = some (r1, .string bs)) (i1 : r0 = true → r1 = true) (ht : c.argTypes.toList = t :: ts) (hu : S.P.underlying t = some (.string))
    (h : GoO S none ops rest E (⟨d, r0, .int .i64 (bs.size : Int)⟩ :: G) n H K) : GoO S none ops (o :: rest) E G n H K :=
  go_gstep (fun _ => False) hd hg hj hl h0 hn hE hG (fun _ _ h => h.elim) (fun hr ρ hρ => by rw [ho]; exact wp_val (p_lenS hc (by rw [hx]; exact congrArg (fun v => [v]) (hρ.g h1 (i1 hr))) ht hu) ⟨rfl, rfl, rfl⟩) h
theorem go_callP {cl : Call} {f : Operand} {fid : FuncId} {first cap : Array Value} {ps : List (Bool × Value)} {args' : List Value} (R : Nat → Prop) {j dj : Nat} {gw r p r0 : Bool} (hd : o.dst = some d) (hg : o.guard = some (j, gw)) (hj : dstOf ops j = some dj) (hl : lookF E G (.tmp dj) = some (r, .bool p)) (h0 : r0 = (r && (p == gw))) (hn : Nat.blt d S.nt = true) (hE : Env.get E d = none) (hG : GE.get G d = none)
    (ho : o.op = .call cl) (hc : cl.callee = .value f) (hf : lookF E G f = some (true, .func (.func fid) first cap)) (ha : lookLG E G cl.args.toList = some ps) (hps : r0 = true → ∀ q ∈ ps, q.1 = true) (he : first.toList ++ ps.map (·.2) ++ cap.toList = args')
    (hspec : r0 = true → Wp ⟨n, R, fun _ => False⟩ (S.call fid args' none) n H fun o n' H' => ∃ v', o = .ret v' false ∧ v' = v ∧ n' = n ∧ H' = H)
    (hR : ∀ b, b < S.c.n0 → R b → S.c.R b ∨ S.c.W b)
    (h : GoO S none ops rest E (⟨d, r0, v⟩ :: G) n H K) : GoO S none ops (o :: rest) E G n H K :=
  go_callG R hd hg hj hl h0 hn hE hG ho hc hf (fun hr ρ hρ => hρ.lg ha (hps hr)) he hspec hR h
theorem go_lenGD {c : Call} {ts : List TypeId} {r1 : Bool} {m code : Nat} {a : Option Addr} {e : TypeId} {j dj : Nat} {gw r p r0 : Bool} (hd : o.dst = some d) (hg : o.guard = some (j, gw)) (hj : dstOf ops j = some dj) (hl : lookF E G (.tmp dj) = some (r, .bool p)) (h0 : r0 = (r && (p == gw))) (hn : Nat.blt d S.nt = true) (hE : Env.get E d = none) (hG : GE.get G d = none) (ho : o.op = .call c) (hc : c.callee = .builtin .len) (hx : c.args.toList = [x]) (h1 : lookF E G x = some (r1, .slice a m code)) (i1 : r0 = true → r1 = true) (ht : c.argTypes.toList = t :: ts) (hu : S.P.underlying t = some (.slice e))
    (h : GoO S (some (n0, ⟨n, n, fun _ => False, fun _ => False⟩ :: is)) ops rest E (⟨d, r0, .int .i64 (m : Int)⟩ :: G) n H K) : GoO S (some (n0, is)) ops (o :: rest) E G n H K :=
  go_gstep (fun _ => False) hd hg hj hl h0 hn hE hG (fun _ _ h => h.elim) (fun hr ρ hρ => by rw [ho]; exact wp_val (p_len hc (by rw [hx]; exact congrArg (fun v => [v]) (hρ.g h1 (i1 hr))) ht hu) ⟨rfl, rfl, rfl⟩) h
theorem go_lenSGD {c : Call} {ts : List TypeId} {r1 : Bool} {bs : ByteArray} {j dj : Nat} {gw r p r0 : Bool} (hd : o.dst = some d) (hg : o.guard = some (j, gw)) (hj : dstOf ops j = some dj) (hl : lookF E G (.tmp dj) = some (r, .bool p)) (h0 : r0 = (r && (p == gw))) (hn : Nat.blt d S.nt = true) (hE : Env.get E d = none) (hG : GE.get G d = none) (ho : o.op = .call c) (hc : c.callee = .builtin .len) (hx : c.args.toList = [x]) (h1 : lookF E G x = some (r1, .string bs)) (i1 : r0 = true → r1 = true) (ht : c.argTypes.toList = t :: ts) (hu : S.P.underlying t = some (.string))
    (h : GoO S (some (n0, ⟨n, n, fun _ => False, fun _ => False⟩ :: is)) ops rest E (⟨d, r0, .int .i64 (bs.size : Int)⟩ :: G) n H K) : GoO S (some (n0, is)) ops (o :: rest) E G n H K :=
  go_gstep (fun _ => False) hd hg hj hl h0 hn hE hG (fun _ _ h => h.elim) (fun hr ρ hρ => by rw [ho]; exact wp_val (p_lenS hc (by rw [hx]; exact congrArg (fun v => [v]) (hρ.g h1 (i1 hr))) ht hu) ⟨rfl, rfl, rfl⟩) h
theorem go_callPD {cl : Call} {f : Operand} {fid : FuncId} {first cap : Array Value} {ps : List (Bool × Value)} {args' : List Value} (R : Nat → Prop) {j dj : Nat} {gw r p r0 : Bool} (hd : o.dst = some d) (hg : o.guard = some (j, gw)) (hj : dstOf ops j = some dj) (hl : lookF E G (.tmp dj) = some (r, .bool p)) (h0 : r0 = (r && (p == gw))) (hn : Nat.blt d S.nt = true) (hE : Env.get E d = none) (hG : GE.get G d = none)
    (ho : o.op = .call cl) (hc : cl.callee = .value f) (hf : lookF E G f = some (true, .func (.func fid) first cap)) (ha : lookLG E G cl.args.toList = some ps) (hps : r0 = true → ∀ q ∈ ps, q.1 = true) (he : first.toList ++ ps.map (·.2) ++ cap.toList = args')
    (hspec : r0 = true → Wp ⟨n, R, fun _ => False⟩ (S.call fid args' none) n H fun o n' H' => ∃ v', o = .ret v' false ∧ v' = v ∧ n' = n ∧ H' = H)
    (hR : ∀ b, b < S.c.n0 → R b → S.c.R b ∨ S.c.W b)
    (h : GoO S (some (n0, ⟨n, n, R, fun _ => False⟩ :: is)) ops rest E (⟨d, r0, v⟩ :: G) n H K) : GoO S (some (n0, is)) ops (o :: rest) E G n H K :=
  go_callGD R hd hg hj hl h0 hn hE hG ho hc hf (fun hr ρ hρ => hρ.lg ha (hps hr)) he hspec hR h
end

section
variable {P : Program} {o : Ov P} {lf d : Nat} {c : Cx} {n : Nat} {H : Tr AObj}
theorem wp_ovr : ∀ {l : List (Nat × Tab)} {Q : Unit → Nat → Tr AObj → Prop}, (∀ b t, (b, t) ∈ l → b < n ∧ (b < c.n0 → c.R b ∨ c.W b) ∧ ∃ rw old esz, H.get b = some (.cells (valsT t) rw old esz)) → Q () n H → Wp c (ovr l) n H Q
  | [], Q, _, h => Wp.ret h
  | (b, t) :: l, Q, hl, h => by
    obtain ⟨h1, h2, rw, old, esz, h3⟩ := hl b t (by simp)
    refine Wp.bnd (Wp.touchR (a := ()) h1 h3 (by simp [chkTab, eqCells_refl]) h2 ?_)
    exact wp_ovr (fun b' t' hb => hl b' t' (by simp [hb])) h
theorem ov_fixed (htab : ∀ b t, (b, t) ∈ o.tabs → b < n ∧ (b < c.n0 → c.R b ∨ c.W b) ∧ ∃ rw old esz, H.get b = some (.cells (valsT t) rw old esz)) :
    Wp c (evO o lf (d + 1) o.f0 [] none) n H fun r n' H' => ∃ v, r = .ret v false ∧ (v = .bool true ∧ n' = n ∧ H' = H) := by
  have e : (Nat.beq o.f0 o.f0 && isNil ([] : List Value) && isNone' (none : Option Value)) = true := by simp [isNil, isNone']
  simp only [evO, ovCall, e]
  exact Wp.bnd (wp_ovr htab (Wp.ret ⟨_, rfl, rfl, rfl, rfl⟩))
theorem ov_inner {f k : Nat} {args : List Value} {Post : Value → Nat → Tr AObj → Prop} (h0 : Nat.beq f o.f0 = false) (h1 : o.outer f = false) (h : FnOK P lf k f args c H Post) (hk : k ≤ o.D) (hn : c.n0 = n) :
    Wp c (evO o lf (d + 1) f args none) n H fun r n' H' => ∃ v, r = .ret v false ∧ Post v n' H' := by
  subst hn
  have e : (Nat.beq f o.f0 && isNil args && isNone' (none : Option Value)) = false := by simp [h0]
  simp only [evO, ovCall, e, h1]
  exact h o.D hk
theorem ov_enter {f : FuncId} {fn : Func} {code : Code} {args : List Value} {Post : Value → Nat → Tr AObj → Prop} (h0 : Nat.beq f o.f0 = false) (h1 : o.outer f = true) (hf : P.funcs[f]? = some fn) (hb : fn.body = some code)
    (h : GoC ⟨P, evO o lf d, lf, c, fn.ntmps, fnQ P (evO o lf d) c fn.results.toList Post⟩ code (argE args 0) c.n0 H []) : Wp c (evO o lf (d + 1) f args none) c.n0 H fun r n' H' => ∃ v, r = .ret v false ∧ Post v n' H' := by
  have e : (Nat.beq f o.f0 && isNil args && isNone' (none : Option Value)) = false := by simp [h0]
  simp only [evO, ovCall, e, h1, hf, enterF, hb]
  refine Wp.bnd (h _ ⟨_, rfl, ⟨fun t v e => argE_agree args 0 .nil t v e, fun t r v e => by simp [GE.get] at e⟩⟩)
end
end Go.Shade

/- Arguments of bytes, as the evaluator sees them. -/
namespace Go.Shade
open Go.ChangeShapes Go.WideShapes Go.ChangeAt Go.RowKit
set_option linter.unusedVariables false

/-- A slice of bytes in the machine: what it holds. -/
inductive BArg (W : World) : Value → List Nat → Prop where
  | nil : BArg W (.slice none 0 0) []
  | void {a : Addr} : BArg W (.slice (some a) 0 0) []
  | row {b off cap : Nat} {c : Array Value} {e : TypeId} {fz : Nat × Nat} {dl : List Nat} : dl.length ≤ cap → W.heap[b]? = some (.cells c e fz) → off + dl.length ≤ c.size →
      (∀ (i x : Nat), dl[i]? = some x → c[off + i]? = some (.int .u8 (x : Int))) → BArg W (.slice (some ⟨b, off, none⟩) dl.length cap) dl

theorem bytes_arg {H : Type} {enc : TypeId × Value → H} {P : Program} {W : World} {base : Nat} {held : Bool} {t e : TypeId} {v : Value} {d : DataW H} {ps : List MemPlace} (ht : P.underlying t = some (.slice e)) (he : P.underlying e = some (.int .u8)) (hc : P.cellsOf e = 1)
    (hok : ∃ a len cap, v = .slice a len cap) (h : DataW.Trod enc P W base (fun _ => true) held t v d ps) : ∃ dl : List Nat, BArg W v dl ∧ ∀ x ∈ dl, x < 256 := by
  obtain ⟨a1, len1, cap1, rfl⟩ := hok
  obtain ⟨fuel, hf⟩ := h
  rcases open_ints ht he hc hf with ⟨hcs, _⟩ | ⟨a, len', cap', zs, hcs, _, hl, _, hz, _, hcell, hwf⟩
  · simp [Value.cells] at hcs
    obtain ⟨rfl, rfl, rfl⟩ := hcs
    exact ⟨[], .nil, by simp⟩
  · simp [Value.cells] at hcs
    obtain ⟨rfl, rfl, rfl⟩ := hcs
    simp only [if_true] at hz
    by_cases hcp : cap1 = 0
    · subst hcp
      obtain rfl : len1 = 0 := by omega
      exact ⟨[], .void, by simp⟩
    · obtain ⟨b, off, s⟩ := a
      obtain rfl : s = none := by simpa [Addr.add] using World.cell?_spot (hcell 0 (by omega))
      have hrange : ∀ n ∈ zs, 0 ≤ n ∧ n < 256 := by
        intro n hn
        have := hwf n hn
        simp [Lit.wf, IntKind.min, IntKind.max, IntKind.bits, IntKind.signed] at this
        omega
      have h0 := hcell 0 (by omega)
      simp only [World.cell?, Addr.add] at h0
      cases hb : W.heap[b]? with
      | none => simp [hb] at h0
      | some o =>
        cases o <;> simp [hb] at h0
        rename_i c e' fz
        have hc' : ∀ i, i < zs.length → c[off + i]? = some (.int .u8 (zs.getD i 0)) := by
          intro i hi
          have := hcell i hi
          by_cases h0 : i = 0
          · subst h0; simpa [World.cell?, Addr.add, hb] using this
          · simpa [World.cell?, Addr.add, hb, h0] using this
        let dl := (zs.take len1).map Int.toNat
        have hdl : dl.length = len1 := by simp [dl]; omega
        have hlast : off + len1 ≤ c.size := by
          by_cases h : len1 = 0
          · have := hc' 0 (by omega)
            have := (Array.getElem?_eq_some_iff.1 this).1
            omega
          · have := hc' (len1 - 1) (by omega)
            have := (Array.getElem?_eq_some_iff.1 this).1
            omega
        refine ⟨dl, ?_, ?_⟩
        · have := BArg.row (W := W) (b := b) (off := off) (cap := cap1) (c := c) (e := e') (fz := fz) (dl := dl) (by omega) hb (by omega) ?_
          · rw [hdl] at this; exact this
          · intro i x hx
            have hi : i < len1 := by rw [← hdl]; exact (List.getElem?_eq_some_iff.1 hx).1
            rw [hc' i (by omega)]
            simp only [dl, List.getElem?_map, List.getElem?_take, if_pos hi] at hx
            rw [List.getElem?_eq_getElem (by omega)] at hx
            simp at hx
            have := (hrange (zs[i]'(by omega)) (List.getElem_mem _)).1
            simp only [List.getD_eq_getElem?_getD, List.getElem?_eq_getElem (show i < zs.length by omega), Option.getD_some]
            congr 2; omega
        · intro x hx
          simp only [dl, List.mem_map] at hx
          obtain ⟨n, hn, rfl⟩ := hx
          have := hrange n (List.mem_of_mem_take hn)
          omega

/-- How the evaluator sees it, at the block blk. -/
structure AArg (W : World) (blk : Nat) (v : Value) (dl : List Nat) (a : Option Addr) (code : Nat) (l : Lc) (has : Bool) : Prop where
  rel : ∀ m : Mp, m blk = some l → VRel m (.slice a dl.length code) v
  no : has = false → dl = [] ∧ (a = none ∨ (a = some voidA ∧ code = 1))
  yes : has = true → (a = some ⟨blk, 0, none⟩ ∧ ∃ cap, code = 2 * cap + 1 ∧ dl.length ≤ cap) ∧ l.esz = 0 ∧ ∃ c e fz, W.heap[l.cb]? = some (.cells c e fz) ∧ c.size = l.sz ∧ l.off + dl.length ≤ l.sz ∧ ∀ m : Mp, RowRel m (u8s dl) c l.off
theorem BArg.abs {W : World} {v : Value} {dl : List Nat} (h : BArg W v dl) (blk : Nat) : ∃ a code l has, AArg W blk v dl a code l has := by
  cases h with
  | nil => exact ⟨none, 0, ⟨0, 0, 0, 0⟩, false, ⟨fun m _ => .nilSlice (c := 0), fun _ => ⟨rfl, .inl rfl⟩, fun h => by cases h⟩⟩
  | void => exact ⟨some voidA, 1, ⟨0, 0, 0, 0⟩, false, ⟨fun m _ => .voidE, fun _ => ⟨rfl, .inr ⟨rfl, rfl⟩⟩, fun h => by cases h⟩⟩
  | row h1 h2 h3 h4 =>
    rename_i b off cap c e fz
    refine ⟨some ⟨blk, 0, none⟩, 2 * cap + 1, ⟨b, off, c.size, 0⟩, true, ⟨fun m hm => ?_, (fun h => by cases h), fun _ => ⟨⟨rfl, cap, rfl, h1⟩, rfl, c, e, fz, h2, rfl, h3, fun m i v hv => ?_⟩⟩⟩
    · have := VRel.sliceE (i := 0) (n := dl.length) (c := cap) hm
      simpa using this
    · rw [u8s_get] at hv
      cases hd : dl[i]? with
      | none => rw [hd] at hv; cases hv
      | some x =>
        rw [hd] at hv
        cases hv
        exact ⟨_, h4 i x hd, .atom rfl⟩

/-- The heap with an argument in it. -/
def setB (H : Tr AObj) (b : Nat) (has : Bool) (dl : List Nat) : Tr AObj := match has with
  | true => H.set b (.cells (u8s dl) false [] 0)
  | false => H
theorem setB_get {H : Tr AObj} {b : Nat} {has : Bool} {dl : List Nat} {k : Nat} {x : AObj} (h : (setB H b has dl).get k = some x) : (k = b ∧ has = true ∧ x = .cells (u8s dl) false [] 0) ∨ H.get k = some x := by
  cases has with
  | false => exact .inr h
  | true =>
    simp only [setB, Tr.get_set] at h
    split at h
    · rename_i e; cases h; exact .inl ⟨e, rfl, rfl⟩
    · exact .inr h
theorem setB_ne {H : Tr AObj} {b : Nat} {has : Bool} {dl : List Nat} {k : Nat} (h : k ≠ b) : (setB H b has dl).get k = H.get k := by
  cases has with
  | false => rfl
  | true => exact Tr.get_set_ne _ _ h
theorem AArg.sl {W : World} {blk n : Nat} {v : Value} {dl : List Nat} {a : Option Addr} {code : Nat} {l : Lc} {has : Bool} (h : AArg W blk v dl a code l has) {H : Tr AObj} {R : Nat → Prop} (hR : R blk) (hn : blk < n) (hg : has = true → H.get blk = some (.cells (u8s dl) false [] 0)) :
    Sl R n H 1 a dl.length code (u8s dl) := by
  cases has with
  | false =>
    obtain ⟨rfl, rfl | ⟨rfl, rfl⟩⟩ := h.no rfl
    · exact ⟨.nil, .nil⟩
    · exact ⟨.void, .voidO (c := 0)⟩
  | true =>
    obtain ⟨⟨rfl, cap, rfl, hc⟩, _⟩ := h.yes rfl
    refine ⟨.row hR hn (hg rfl) ?_, .ex hc⟩
    rw [Nat.mul_one, ← u8s_length]
    exact rowOf_all _
end Go.Shade

/- Numbers as bytes, and read back: the plain laws. -/
namespace Go.Shade
set_option linter.unusedVariables false

/-- A number's last k bytes, the greatest first. -/
def numB : Nat → Nat → List Nat
  | _, 0 => []
  | a, k + 1 => numB (a / 256) k ++ [a % 256]
def numM (a : Nat) (k : Int) : List Nat := if k < 1 ∨ k > 8 then [] else numB a k.toNat
theorem numB_length : ∀ (k a : Nat), (numB a k).length = k
  | 0, _ => rfl
  | k + 1, a => by simp [numB, numB_length k]
def varB (n : Nat) : List Nat := if n < 128 then [n] else (n % 128 + 128) :: varB (n / 128)
termination_by n
decreasing_by omega
theorem varB_lo {n : Nat} (h : n < 128) : varB n = [n] := by rw [varB, if_pos h]
theorem varB_hi {n : Nat} (h : ¬ n < 128) : varB n = (n % 128 + 128) :: varB (n / 128) := by rw [varB, if_neg h]
theorem varB_len : ∀ (k n : Nat), n < 128 ^ (k + 1) → (varB n).length ≤ k + 1
  | 0, n, h => by rw [varB_lo (by simpa using h)]; simp
  | k + 1, n, h => by
    by_cases hn : n < 128
    · rw [varB_lo hn]; simp
    · rw [varB_hi hn]
      have := varB_len k (n / 128) (by rw [Nat.pow_succ] at h; exact Nat.div_lt_of_lt_mul (by omega))
      simp; omega
theorem varB_10 {n : Nat} (h : n < 2 ^ 64) : (varB n).length ≤ 10 := varB_len 9 n (by omega)
theorem varB_pos (n : Nat) : 1 ≤ (varB n).length := by rw [varB]; split <;> simp
theorem bytes_numB : ∀ (k a : Nat), ∀ x ∈ numB a k, x < 256
  | 0, _, x, h => by simp [numB] at h
  | k + 1, a, x, h => by
    simp only [numB, List.mem_append, List.mem_singleton] at h
    rcases h with h | rfl
    · exact bytes_numB k _ x h
    · omega
theorem bytes_varB (n : Nat) : ∀ x ∈ varB n, x < 256 := by
  induction n using Nat.strongRecOn with
  | ind n ih =>
    intro x h
    by_cases hn : n < 128
    · rw [varB_lo hn] at h; simp at h; omega
    · rw [varB_hi hn] at h
      rcases List.mem_cons.1 h with rfl | h
      · omega
      · exact ih (n / 128) (by omega) x h

/-- The value of bytes, the greatest first. -/
def valB (l : List Nat) : Nat := l.foldl (fun n b => n * 256 + b) 0
theorem valB_snoc (l : List Nat) (x : Nat) : valB (l ++ [x]) = valB l * 256 + x := by simp [valB]
theorem valB_acc : ∀ (l : List Nat) (n : Nat), (∀ x ∈ l, x < 256) → l.foldl (fun n b => n * 256 + b) n < (n + 1) * 256 ^ l.length
  | [], n, _ => by simp
  | x :: l, n, h => by
    have h2 := h x (by simp)
    have := valB_acc l (n * 256 + x) (fun y hy => h y (by simp [hy]))
    simp only [List.foldl_cons, List.length_cons]
    refine Nat.lt_of_lt_of_le this ?_
    rw [Nat.pow_succ, Nat.mul_comm (256 ^ l.length), ← Nat.mul_assoc]
    exact Nat.mul_le_mul_right _ (by omega)
theorem valB_lt (l : List Nat) (h : ∀ x ∈ l, x < 256) : valB l < 256 ^ l.length := by
  have := valB_acc l 0 h
  rw [Nat.zero_add, Nat.one_mul] at this
  exact this
theorem valB_numB : ∀ (k a : Nat), a < 256 ^ k → valB (numB a k) = a
  | 0, a, h => by simp at h; simp [numB, valB, h]
  | k + 1, a, h => by
    rw [numB, valB_snoc, valB_numB k (a / 256) (by rw [Nat.pow_succ] at h; exact Nat.div_lt_of_lt_mul (by omega))]
    omega

structure RS where
  at' : Nat
  err : Nat
/-- A number of k bytes. -/
def rNum (l : List Nat) (k : Int) (s : RS) : Nat × RS :=
  if s.err ≠ 0 then (0, s) else if k < 1 ∨ k > 8 then (0, ⟨s.at', 1⟩) else if (l.length : Int) - (s.at' : Int) < k then (0, ⟨s.at', 2⟩) else (valB ((l.drop s.at').take k.toNat), ⟨s.at' + k.toNat, 0⟩)
/-- A number as varB lays it: the error, the number, how many bytes. -/
def rVarF : Nat → Nat → List Nat → Nat × Nat × Nat
  | _, _, [] => (2, 0, 0)
  | i, n, d :: l => if (i = 9 ∧ d > 1) ∨ (i > 0 ∧ d = 0) then (3, 0, 0) else if d < 128 then (0, n + d % 128 * 128 ^ i, i + 1) else rVarF (i + 1) (n + d % 128 * 128 ^ i) l
def rVar (l : List Nat) (s : RS) : Nat × RS :=
  if s.err ≠ 0 then (0, s) else match rVarF 0 0 (l.drop s.at') with
  | (0, n, u) => (n, ⟨s.at' + u, 0⟩)
  | (e, _, _) => (0, ⟨s.at', e⟩)

/-- An instruction's bytes; the error. -/
def putM (v : Int) (base n : Nat) (d : List Nat) : List Nat × Nat :=
  if v = 1 then (numB base 8 ++ numB n 8 ++ d, 0) else if v = 2 ∨ v = 3 then (varB base ++ varB n ++ d, 0) else ([], 1)
def getS (v : Int) (l : List Nat) (s : RS) : Nat × RS := if v = 1 then rNum l 8 s else rVar l s
/-- What bytes tell: the base, the number, the rest, the error. -/
def getM (v : Int) (l : List Nat) : Nat × Nat × List Nat × Nat :=
  if v < 1 ∨ v > 3 then (0, 0, [], 1) else
    let r1 := getS v l ⟨0, 0⟩
    let r2 := getS v l r1.2
    if r2.2.err ≠ 0 then (0, 0, [], r2.2.err) else (r1.1, r2.1, l.drop r2.2.at', 0)

theorem rVarF_app : ∀ (k i n x : Nat) (rest : List Nat), i + k ≤ 9 → x < 128 ^ (k + 1) → (i + k = 9 → x < 2 * 128 ^ k) → (i > 0 → x > 0) →
    rVarF i n (varB x ++ rest) = (0, n + x * 128 ^ i, i + (varB x).length)
  | k, i, n, x, rest, hik, hx, h9, h0 => by
    by_cases hn : x < 128
    · rw [varB_lo hn]
      simp only [List.cons_append, List.nil_append, rVarF, List.length_singleton]
      rw [if_neg, if_pos hn, Nat.mod_eq_of_lt hn]
      rintro (⟨h1, h2⟩ | ⟨h1, h2⟩)
      · obtain rfl : k = 0 := by omega
        have := h9 (by omega)
        simp at this; omega
      · have := h0 h1; omega
    · rw [varB_hi hn]
      cases k with
      | zero => simp at hx; omega
      | succ k =>
        simp only [List.cons_append, rVarF, List.length_cons]
        rw [if_neg (by omega), if_neg (by omega), rVarF_app k (i + 1) _ (x / 128) rest (by omega) ?_ ?_ (by intro _; omega)]
        · rw [show (x % 128 + 128) % 128 = x % 128 by omega, Nat.pow_succ]
          congr 2
          · have : x * 128 ^ i = (128 * (x / 128) + x % 128) * 128 ^ i := by rw [Nat.div_add_mod]
            rw [this, Nat.add_mul]
            have : 128 * (x / 128) * 128 ^ i = x / 128 * (128 ^ i * 128) := by
              rw [Nat.mul_comm 128 (x / 128), Nat.mul_assoc, Nat.mul_comm 128]
            omega
          · omega
        · rw [Nat.pow_succ] at hx; exact Nat.div_lt_of_lt_mul (by omega)
        · intro h
          have := h9 (by omega)
          rw [Nat.pow_succ] at this
          exact Nat.div_lt_of_lt_mul (by omega)
theorem rVar_put {x : Nat} (hx : x < 2 ^ 64) (pre rest : List Nat) : rVar (pre ++ (varB x ++ rest)) ⟨pre.length, 0⟩ = (x, ⟨pre.length + (varB x).length, 0⟩) := by
  unfold rVar
  simp only [ne_eq, not_true, ite_false, List.drop_left]
  rw [rVarF_app 9 0 0 x rest (by omega) (by omega) (by intro _; omega) (by omega)]
  simp
theorem rNum_put {x : Nat} (hx : x < 2 ^ 64) (pre rest : List Nat) : rNum (pre ++ (numB x 8 ++ rest)) 8 ⟨pre.length, 0⟩ = (x, ⟨pre.length + 8, 0⟩) := by
  unfold rNum
  have hl := numB_length 8 x
  rw [if_neg (by simp), if_neg (by omega), if_neg (by simp [hl]; omega)]
  simp only [List.drop_left]
  have : ((8 : Int).toNat) = 8 := rfl
  rw [this, List.take_append_of_le_length (by omega), List.take_of_length_le (by omega), valB_numB 8 x (by omega)]
/-- What is put is got. -/
theorem get_put {v : Int} {base n : Nat} {d : List Nat} (hb : base < 2 ^ 64) (hn : n < 2 ^ 64) (h : (putM v base n d).2 = 0) : getM v (putM v base n d).1 = (base, n, d, 0) := by
  have key1 : ∀ (p q : List Nat), (p ++ q ++ d).drop (p.length + q.length) = d := by intro p q; rw [← List.length_append, List.drop_left]
  unfold putM at h ⊢
  by_cases h1 : v = 1
  · subst h1
    simp only [if_true, getM, getS]
    rw [if_neg (by omega)]
    have e1 := rNum_put hb [] (numB n 8 ++ d)
    have e2 := rNum_put hn (numB base 8) d
    simp only [List.nil_append, List.length_nil, numB_length] at e1 e2
    rw [List.append_assoc, e1]
    simp only [Nat.zero_add]
    rw [e2]
    simp only [ne_eq, not_true, ite_false]
    have := key1 (numB base 8) (numB n 8)
    rw [numB_length, numB_length, List.append_assoc] at this
    rw [this]
  · rw [if_neg h1] at h ⊢
    by_cases h2 : v = 2 ∨ v = 3
    · rw [if_pos h2]
      simp only [getM, getS]
      rw [if_neg (by omega), if_neg h1, if_neg h1]
      have e1 := rVar_put hb [] (varB n ++ d)
      have e2 := rVar_put hn (varB base) d
      simp only [List.nil_append, List.length_nil] at e1
      rw [List.append_assoc, e1]
      simp only [Nat.zero_add]
      rw [e2]
      simp only [ne_eq, not_true, ite_false]
      have := key1 (varB base) (varB n)
      rw [List.append_assoc] at this
      rw [this]
    · rw [if_neg h2] at h; simp at h
end Go.Shade

/- A reader over bytes, as it lies in memory. -/
namespace Go.Shade
set_option linter.unusedVariables false

/-- A reader of the bytes l at the block br, whose bytes lie elsewhere, from lo on. -/
structure Rdr (lo n : Nat) (H : Tr AObj) (br : Nat) (l : List Nat) (at' err : Nat) : Prop where
  ex : ∃ a code, H.get br = some (.cells [.slice a l.length code, .int .i64 (at' : Int), .int .i64 (err : Int)] true [] 0) ∧ Sl (fun b => lo ≤ b ∧ b < n ∧ b ≠ br) n H 1 a l.length code (u8s l)
  lo : lo ≤ br
  hi : br < n
  le : at' ≤ l.length
theorem Rdr.mk' {lo n : Nat} {H : Tr AObj} {br : Nat} {l : List Nat} {at' err : Nat} {a : Option Addr} {code : Nat} {H' : Tr AObj} {z e : Int}
    (h1 : H'.get br = some (.cells [.slice a l.length code, .int .i64 z, .int .i64 e] true [] 0)) (h2 : Sl (fun b => lo ≤ b ∧ b < n ∧ b ≠ br) n H 1 a l.length code (u8s l)) (hf : ∀ b, b ≠ br → H'.get b = H.get b)
    (hz : z = (at' : Int)) (he : e = (err : Int)) (lo1 : lo ≤ br) (hi : br < n) (le : at' ≤ l.length) : Rdr lo n H' br l at' err := by
  subst hz he
  exact ⟨⟨a, code, h1, h2.frame (Nat.le_refl _) (fun _ h => h) (fun b hb _ => hf b hb.2.2)⟩, lo1, hi, le⟩
theorem valB_take_lt {l : List Nat} (hby : ∀ x ∈ l, x < 256) (p j : Nat) : valB ((l.drop p).take j) < 256 ^ j := by
  have h := valB_lt ((l.drop p).take j) (fun x hx => hby x (List.mem_of_mem_drop (List.mem_of_mem_take hx)))
  refine Nat.lt_of_lt_of_le h (Nat.pow_le_pow_right (by omega) (by simp; omega))
theorem valB_take_succ {l : List Nat} {p j : Nat} (h : p + j < l.length) : valB ((l.drop p).take (j + 1)) = valB ((l.drop p).take j) * 256 + l[p + j] := by
  rw [List.take_add_one, List.getElem?_drop, List.getElem?_eq_getElem h]
  simp [valB_snoc]
theorem or_low {a b : Nat} (h : b < 256) : a * 2 ^ 8 ||| b = a * 256 + b := by
  have := Nat.two_pow_add_eq_or_of_lt (i := 8) (b := b) (by omega) a
  rw [Nat.mul_comm] at this
  rw [← this]
theorem or_hi {a n i : Nat} (h : n < 2 ^ i) : n ||| a * 2 ^ i = n + a * 2 ^ i := by
  have := Nat.two_pow_add_eq_or_of_lt h a
  rw [Nat.or_comm, Nat.mul_comm, ← this, Nat.add_comm]
theorem p128 (i : Nat) : 128 ^ i = 2 ^ (7 * i) := by rw [Nat.pow_mul]
theorem Sl.blk {R : Nat → Prop} {n : Nat} {H : Tr AObj} {k m code : Nat} {a : Option Addr} {l : List Value} (h : Sl R n H k a m code l) {b : Nat} (hb : blkIs a b) : R b ∧ b < n := by
  cases h.rd' with
  | nil => exact hb.elim
  | void => exact hb.elim
  | row h1 h2 h3 h4 => cases hb; exact ⟨h1, h2⟩
theorem Sl.narrow {R : Nat → Prop} {n : Nat} {H : Tr AObj} {k m code : Nat} {a : Option Addr} {l : List Value} (h : Sl R n H k a m code l) : Sl (fun b => R b ∧ b < n) n H k a m code l := by
  refine ⟨?_, h.cap⟩
  cases h.rd' with
  | nil => exact .nil
  | void => exact .void
  | row h1 h2 h3 h4 => exact .row ⟨h1, h2⟩ h2 h3 h4
theorem New.blk {lo n : Nat} {H : Tr AObj} {k m code : Nat} {a : Option Addr} {l : List Value} (h : New lo n H k a m code l) {b : Nat} (hb : blkIs a b) : lo ≤ b ∧ b < n := by
  cases h with
  | nil => exact hb.elim
  | void => exact hb.elim
  | full h1 h2 h3 h4 => cases hb; exact ⟨h1, h2⟩
  | own h1 h2 h3 h4 => cases hb; exact ⟨h1, h2⟩
theorem New.rd {lo n : Nat} {H : Tr AObj} {k m code : Nat} {a : Option Addr} {l : List Value} (h : New lo n H k a m code l) {c : Cx} (hc : c.n0 ≤ lo) : RdS c n H k (.slice a m code) m l :=
  (h.sl (R := fun b => lo ≤ b ∧ b < n) (fun b h1 h2 => ⟨h1, h2⟩)).rd (fun b h hb => absurd hb (by omega))
theorem New.length {lo n : Nat} {H : Tr AObj} {k m code : Nat} {a : Option Addr} {l : List Value} (h : New lo n H k a m code l) : l.length = m * k := by
  cases h with
  | nil => simp
  | void => simp
  | full h1 h2 h3 h4 => exact rowOf_length h4
  | own h1 h2 h3 h4 => exact h4
/-- Writing into new memory. -/
theorem New.write {lo n : Nat} {H : Tr AObj} {k m code : Nat} {a : Option Addr} {l vs : List Value} {j : Nat} (h : New lo n H k a m code l) (hj : j + vs.length ≤ m * k) (hm : 0 < m) :
    ∃ b i cs old esz cs', a = some ⟨b, i, none⟩ ∧ lo ≤ b ∧ b < n ∧ H.get b = some (.cells cs true old esz) ∧ (∀ o ∈ old, lo ≤ o ∧ o < n ∧ o ≠ b ∧ H.get o ≠ none) ∧ (∀ t, t < m * k → nth cs (i + t) = l[t]?) ∧ putAt (i + j) vs cs = some cs' ∧
      New lo n ((killed H old).set b (.cells cs' true [] esz)) k a m code (l.take j ++ vs ++ l.drop (j + vs.length)) := by
  cases h with
  | nil => omega
  | void => omega
  | full h1 h2 h3 h4 h5 =>
    rename_i b i cs old esz
    obtain ⟨e, hl⟩ := rowOf_eq h4
    have hp := putAt_some (i + j) vs cs (by omega)
    refine ⟨b, i, cs, old, esz, _, rfl, h1, h2, h3, h5, fun t ht => rowOf_nth h4 ht, hp, ?_⟩
    refine .full h1 h2 (Tr.get_set_eq _ _ _) ?_ (by simp)
    have hlen := putAt_length hp
    rw [rowOf_some (by omega)]
    congr 1
    refine List.ext_getElem? fun t => ?_
    subst e
    by_cases ht : t < m * k
    · rw [List.getElem?_take, if_pos ht, List.getElem?_drop, putAt_get hp]
      by_cases h6 : t < j
      · rw [if_neg (by omega), List.append_assoc, List.getElem?_append_left (by simp; omega), List.getElem?_take, if_pos h6, List.getElem?_take, if_pos ht, List.getElem?_drop]
      · have lt : ((List.take (m * k) (List.drop i cs)).take j).length = j := by simp; omega
        by_cases h7 : t < j + vs.length
        · rw [if_pos (by omega), List.append_assoc, List.getElem?_append_right (by omega), lt, List.getElem?_append_left (by omega)]
          congr 1; omega
        · rw [if_neg (by omega), List.append_assoc, List.getElem?_append_right (by omega), lt, List.getElem?_append_right (by omega), List.getElem?_drop, List.getElem?_take, if_pos (by omega), List.getElem?_drop]
          congr 1; omega
    · rw [List.getElem?_eq_none (by simp; omega), List.getElem?_eq_none (by simp; omega)]
  | own h1 h2 h3 h4 h5 h6 =>
    rename_i b old
    have hp := putAt_some (0 + j) vs l (by omega)
    refine ⟨b, 0, l, old, k, _, rfl, h1, h2, h3, h6, fun t ht => by rw [Nat.zero_add, nth_eq], hp, ?_⟩
    refine .own (old := []) h1 h2 ?_ (by simp; omega) h5 (by simp)
    rw [Tr.get_set_eq, Nat.zero_add]
theorem numM_8 (a : Nat) : numM a 8 = numB a 8 := by simp [numM]
/-- The value of bytes of seven bits each, the least first. -/
def valV : List Nat → Nat
  | [] => 0
  | d :: l => d % 128 + 128 * valV l
theorem valV_app : ∀ a b : List Nat, valV (a ++ b) = valV a + 128 ^ a.length * valV b
  | [], b => by simp [valV]
  | d :: a, b => by
    simp only [List.cons_append, valV, valV_app a b, List.length_cons, Nat.pow_succ]
    rw [Nat.mul_add, ← Nat.mul_assoc, Nat.mul_comm 128 (128 ^ a.length)]
    omega
theorem valV_lt : ∀ a : List Nat, valV a < 128 ^ a.length
  | [] => by simp [valV]
  | d :: a => by
    have := valV_lt a
    simp only [valV, List.length_cons, Nat.pow_succ]
    omega
theorem valV_drop (a : List Nat) (r : Nat) : valV (a.drop r) ≤ valV a := by
  have h := valV_app (a.take r) (a.drop r)
  rw [List.take_append_drop] at h
  have : 1 ≤ 128 ^ (a.take r).length := Nat.pow_pos (by omega)
  have := Nat.mul_le_mul_right (valV (a.drop r)) this
  omega
theorem u8s_sub (l : List Nat) (p q : Nat) : ((u8s l).drop (p * 1)).take (q * 1) = u8s ((l.drop p).take q) := by simp [u8s, List.map_take, List.map_drop]
end Go.Shade
