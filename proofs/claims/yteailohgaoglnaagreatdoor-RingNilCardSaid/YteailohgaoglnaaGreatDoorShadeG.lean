/- How an abstract heap stands to a world: values, rows, the whole. -/
import Derived.Test.YteailohgaoglnaaGreatDoorShadeF
import Derived.Below
import Derived.Laws.Cells
namespace Go.Shade
open Go.RowKit

/-- Where an abstract object lies: its block, the first cell, how many cells the block has, the size of an element. -/
structure Lc where
  cb : Nat
  off : Nat
  sz : Nat
  esz : Nat

abbrev Mp := Nat → Option Lc

def atomic : Value → Bool
  | .bool _ | .int _ _ | .float _ _ | .complex _ _ _ | .string _ | .pointer none | .map none | .chan none | .nilFunc | .nilIface => true
  | _ => false

mutual
inductive VRel (m : Mp) : Value → Value → Prop where
  | atom {v : Value} : atomic v = true → VRel m v v
  | ptr {b i : Nat} {l : Lc} : m b = some l → VRel m (.pointer (some ⟨b, i, none⟩)) (.pointer (some ⟨l.cb, l.off + i, none⟩))
  | nilSlice {c : Nat} : VRel m (.slice none 0 c) (.slice none 0 0)
  | sliceE {b i : Nat} {l : Lc} {n c : Nat} : m b = some l → VRel m (.slice (some ⟨b, i, none⟩) n (2 * c + 1)) (.slice (some ⟨l.cb, l.off + i, none⟩) n c)
  | sliceI {b i : Nat} {l : Lc} {n c c' k : Nat} : m b = some l → n ≤ c → c ≤ c' → k < 65536 → l.off + i + c' * k ≤ l.sz → VRel m (.slice (some ⟨b, i, none⟩) n (codeI c k)) (.slice (some ⟨l.cb, l.off + i, none⟩) n c')
  | void {a : Addr} {c' : Nat} : VRel m (.slice (some voidA) 0 0) (.slice (some a) 0 c')
  | voidE {a : Addr} : VRel m (.slice (some voidA) 0 1) (.slice (some a) 0 0)
  | map {r : Nat} {l : Lc} : m r = some l → VRel m (.map (some r)) (.map (some l.cb))
  | func {fn : Fn} {f f' c c' : Array Value} : VRelL m f.toList f'.toList → VRelL m c.toList c'.toList → VRel m (.func fn f c) (.func fn f' c')
  | iface {t : TypeId} {v v' : Value} : VRel m v v' → VRel m (.iface t v) (.iface t v')
  | agg {c c' : Array Value} : VRelL m c.toList c'.toList → VRel m (.agg c) (.agg c')
  | tuple {c c' : Array Value} : VRelL m c.toList c'.toList → VRel m (.tuple c) (.tuple c')
inductive VRelL (m : Mp) : List Value → List Value → Prop where
  | nil : VRelL m [] []
  | cons {v v' : Value} {l l' : List Value} : VRel m v v' → VRelL m l l' → VRelL m (v :: l) (v' :: l')
end

/-- More is known of where things lie. -/
def MLe (m m' : Mp) : Prop := ∀ b l, m b = some l → m' b = some l
theorem MLe.refl (m : Mp) : MLe m m := fun _ _ h => h
theorem MLe.trans {a b c : Mp} (h : MLe a b) (k : MLe b c) : MLe a c := fun _ _ e => k _ _ (h _ _ e)

mutual
theorem VRel.mono {m m' : Mp} (hm : MLe m m') : ∀ {v v' : Value}, VRel m v v' → VRel m' v v'
  | _, _, .atom h => .atom h
  | _, _, .ptr h => .ptr (hm _ _ h)
  | _, _, .nilSlice => .nilSlice
  | _, _, .sliceE h => .sliceE (hm _ _ h)
  | _, _, .sliceI h a b c d => .sliceI (hm _ _ h) a b c d
  | _, _, .void => .void
  | _, _, .voidE => .voidE
  | _, _, .map h => .map (hm _ _ h)
  | _, _, .func h k => .func (VRelL.mono hm h) (VRelL.mono hm k)
  | _, _, .iface h => .iface (VRel.mono hm h)
  | _, _, .agg h => .agg (VRelL.mono hm h)
  | _, _, .tuple h => .tuple (VRelL.mono hm h)
theorem VRelL.mono {m m' : Mp} (hm : MLe m m') : ∀ {l l' : List Value}, VRelL m l l' → VRelL m' l l'
  | _, _, .nil => .nil
  | _, _, .cons h k => .cons (VRel.mono hm h) (VRelL.mono hm k)
end

theorem VRelL.length {m : Mp} : ∀ {l l' : List Value}, VRelL m l l' → l.length = l'.length
  | _, _, .nil => rfl
  | _, _, .cons _ k => by simp [VRelL.length k]
theorem VRelL.get {m : Mp} : ∀ {l l' : List Value}, VRelL m l l' → ∀ {i : Nat} {v : Value}, l[i]? = some v → ∃ v', l'[i]? = some v' ∧ VRel m v v'
  | _, _, .nil, i, v, h => by simp at h
  | _, _, .cons (v' := v') h k, 0, v, e => by simp at e; subst e; exact ⟨v', by simp, h⟩
  | _, _, .cons h k, i + 1, v, e => by simpa using VRelL.get k (by simpa using e)
theorem VRelL.of_get {m : Mp} : ∀ {l l' : List Value}, l.length = l'.length → (∀ (i : Nat) (v : Value), l[i]? = some v → ∃ v', l'[i]? = some v' ∧ VRel m v v') → VRelL m l l'
  | [], [], _, _ => .nil
  | [], _ :: _, h, _ => by simp at h
  | _ :: _, [], h, _ => by simp at h
  | v :: l, v' :: l', h, k => by
    obtain ⟨u, hu, hr⟩ := k 0 v (by simp)
    simp at hu
    subst hu
    exact .cons hr (VRelL.of_get (by simpa using h) fun i x hx => by simpa using k (i + 1) x (by simpa using hx))
theorem VRelL.append {m : Mp} : ∀ {a a' b b' : List Value}, VRelL m a a' → VRelL m b b' → VRelL m (a ++ b) (a' ++ b')
  | _, _, _, _, .nil, k => k
  | _, _, _, _, .cons h g, k => .cons h (VRelL.append g k)
theorem VRelL.map {m : Mp} {α : Type} (f g : α → Value) (h : ∀ x, VRel m (f x) (g x)) : ∀ l : List α, VRelL m (l.map f) (l.map g)
  | [] => .nil
  | x :: l => .cons (h x) (VRelL.map f g h l)
theorem VRelL.atoms {m : Mp} : ∀ {l : List Value}, (∀ v ∈ l, atomic v = true) → VRelL m l l
  | [], _ => .nil
  | _ :: _, h => .cons (.atom (h _ (by simp))) (VRelL.atoms fun u hu => h u (by simp [hu]))

theorem VRel.cells {m : Mp} {v v' : Value} (h : VRel m v v') : VRelL m (cellsOf v) v'.cells.toList := by
  cases h with
  | agg k => exact k
  | atom h => cases v <;> first | exact .cons (.atom h) .nil | simp [atomic] at h
  | ptr h => exact .cons (.ptr h) .nil
  | nilSlice => exact .cons .nilSlice .nil
  | sliceE h => exact .cons (.sliceE h) .nil
  | sliceI h a b c d => exact .cons (.sliceI h a b c d) .nil
  | void => exact .cons .void .nil
  | voidE => exact .cons .voidE .nil
  | map h => exact .cons (.map h) .nil
  | func h k => exact .cons (.func h k) .nil
  | iface h => exact .cons (.iface h) .nil
  | tuple h => exact .cons (.tuple h) .nil

theorem VRel.oneCell {m : Mp} {v v' : Value} (h : VRel m v v') : oneCell v = v'.oneCell' := by
  cases h <;> rfl
theorem VRelL.allOne {m : Mp} {l l' : List Value} (h : VRelL m l l') (ha : l.all Shade.oneCell = true) : ∀ v ∈ l', v.oneCell' = true := by
  induction l generalizing l' with
  | nil => cases h; simp
  | cons x l ih =>
    cases h with
    | cons h k =>
      simp only [List.all_cons, Bool.and_eq_true] at ha
      intro v hv
      rcases List.mem_cons.1 hv with rfl | hv
      · rw [← h.oneCell]; exact ha.1
      · exact ih k ha.2 v hv

/-- A row's cells, as they lie. -/
def RowRel (m : Mp) (cs : List Value) (c : Array Value) (off : Nat) : Prop := ∀ i v, cs[i]? = some v → ∃ v', c[off + i]? = some v' ∧ VRel m v v'

def NoFz (sz : Nat) (fz : Nat × Nat) : Prop := fz = (0, 0) ∨ sz ≤ fz.1

def liveIn (H : Tr AObj) (b : Nat) : Prop := ∃ o, H.get b = some o ∧ o ≠ .dead
def oldIn (H : Tr AObj) (a b : Nat) : Prop := ∃ cs rw old esz, H.get b = some (.cells cs rw old esz) ∧ a ∈ old

structure HRel (m : Mp) (H : Tr AObj) (w : World) (base : Nat) : Prop where
  bs : base ≤ w.heap.size
  cells : ∀ b cs rw old esz, H.get b = some (.cells cs rw old esz) → ∃ l c e fz, m b = some l ∧ l.esz = esz ∧ w.heap[l.cb]? = some (.cells c e fz) ∧ c.size = l.sz ∧
    l.off + cs.length ≤ l.sz ∧ RowRel m cs c l.off ∧ (rw = true → base ≤ l.cb ∧ NoFz c.size fz)
  iter : ∀ b s pos, H.get b = some (.iter s pos) → ∃ l, m b = some l ∧ l.off = 0 ∧ base ≤ l.cb ∧ w.heap[l.cb]? = some (.stringIter s pos)
  map : ∀ b es, H.get b = some (.map es) → ∃ l ces clock, m b = some l ∧ base ≤ l.cb ∧ w.heap[l.cb]? = some (.map ces clock) ∧ ces.size = es.length ∧
    ∀ (i : Nat) (p : Value × Value), es[i]? = some p → ∃ q : MapEntry, ces[i]? = some q ∧ VRel m p.1 q.key ∧ VRel m p.2 q.val
  sep : ∀ a b l k, liveIn H a → liveIn H b → a ≠ b → m a = some l → m b = some k → l.cb = k.cb → base ≤ l.cb → oldIn H a b ∨ oldIn H b a
  ends : ∀ a cs rw old esz b ds rw' old' esz' l k, H.get a = some (.cells cs rw old esz) → H.get b = some (.cells ds rw' old' esz') → a ∈ old' → m a = some l → m b = some k → l.cb = k.cb → l.off + cs.length ≤ k.off + ds.length
  olds : ∀ a b, oldIn H a b → ∃ l, m a = some l
  ro : ∀ a b, oldIn H a b → ∀ o, H.get a = some o → o = .dead ∨ ∃ cs old esz, o = .cells cs false old esz

theorem HRel.heap {m : Mp} {H : Tr AObj} {w w' : World} {base : Nat} (h : HRel m H w base) (e : w'.heap = w.heap) : HRel m H w' base :=
  ⟨by rw [e]; exact h.bs, by rw [e]; exact h.cells, by rw [e]; exact h.iter, by rw [e]; exact h.map, h.sep, h.ends, h.olds, h.ro⟩

theorem RowRel.mono {m m' : Mp} {cs : List Value} {c : Array Value} {off : Nat} (hm : MLe m m') (h : RowRel m cs c off) : RowRel m' cs c off :=
  fun i v e => let ⟨v', h1, h2⟩ := h i v e; ⟨v', h1, h2.mono hm⟩

/-- The heap as a map is what counts. -/
theorem HRel.same {m : Mp} {H K : Tr AObj} {w : World} {base : Nat} (h : HRel m H w base) (e : ∀ b, K.get b = H.get b) : HRel m K w base := by
  have ho : ∀ a b, oldIn K a b ↔ oldIn H a b := fun a b => by unfold oldIn; rw [e]
  refine ⟨h.bs, fun b => by rw [e]; exact h.cells b, fun b => by rw [e]; exact h.iter b, fun b => by rw [e]; exact h.map b, ?_, fun a cs rw old esz b ds rw' old' esz' => by rw [e, e]; exact h.ends a cs rw old esz b ds rw' old' esz', fun a b hab => h.olds a b ((ho a b).1 hab), ?_⟩
  · intro a b l k ha hb
    unfold liveIn at ha hb
    rw [e] at ha hb
    rw [ho, ho]
    exact h.sep a b l k ha hb
  · intro a b hab; rw [e]; exact h.ro a b ((ho a b).1 hab)

/-- Nothing of the map is lost or given anew but what is new. -/
def Ext (m m' : Mp) (n n' : Nat) : Prop := ∀ b, ¬ (n ≤ b ∧ b < n') → m' b = m b
def Fresh (m : Mp) (n n' : Nat) : Prop := ∀ b, n ≤ b → b < n' → m b = none
theorem Ext.refl (m : Mp) (n n' : Nat) : Ext m m n n' := fun _ _ => rfl
theorem Ext.le {m m' : Mp} {n n' : Nat} (h : Ext m m' n n') (hf : Fresh m n n') : MLe m m' := by
  intro b l e
  by_cases hb : n ≤ b ∧ b < n'
  · rw [hf b hb.1 hb.2] at e; cases e
  · rw [h b hb]; exact e
theorem Ext.trans {a b c : Mp} {n n1 n' : Nat} (h : Ext a b n n1) (k : Ext b c n1 n') (h1 : n ≤ n1) (h2 : n1 ≤ n') : Ext a c n n' := by
  intro x hx
  rw [k x (fun e => hx ⟨by omega, e.2⟩), h x (fun e => hx ⟨e.1, by omega⟩)]
theorem Fresh.left {m : Mp} {n n1 n' : Nat} (h : Fresh m n n') (h1 : n1 ≤ n') : Fresh m n n1 := fun b a c => h b a (by omega)
theorem Fresh.right {m m1 : Mp} {n n1 n' : Nat} (h : Fresh m n n') (e : Ext m m1 n n1) (h1 : n ≤ n1) : Fresh m1 n1 n' := fun b a c => by
  rw [e b (by omega)]; exact h b (by omega) c

/-- The number of the next object never falls. -/
def Mono {α : Type} (x : M α) : Prop := ∀ s a s', x s = some (a, s') → s.n ≤ s'.n
end Go.Shade
