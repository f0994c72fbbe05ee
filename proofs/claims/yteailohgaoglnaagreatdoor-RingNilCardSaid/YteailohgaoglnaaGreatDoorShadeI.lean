/- How an abstract heap and a world stay together under what is read, written, made. -/
import Derived.Test.YteailohgaoglnaaGreatDoorShadeH
namespace Go.Shade
open Go.RowKit
set_option linter.unusedVariables false

def upd (m : Mp) (n : Nat) (l : Lc) : Mp := fun b => if b = n then some l else m b
theorem upd_eq (m : Mp) (n : Nat) (l : Lc) : upd m n l n = some l := by simp [upd]
theorem upd_ne (m : Mp) {n b : Nat} (l : Lc) (h : b ≠ n) : upd m n l b = m b := by simp [upd, h]
theorem upd_le {m : Mp} {n : Nat} {l : Lc} (h : m n = none) : MLe m (upd m n l) := by
  intro b k e
  rw [upd_ne _ _ (by intro e2; subst e2; rw [h] at e; cases e)]; exact e
theorem Ext.upd (m : Mp) (n : Nat) (l : Lc) : Ext m (upd m n l) n (n + 1) := fun b h => upd_ne _ _ (by omega)

/-- A block's object in another's place. -/
def putObj (w : World) (g : Nat) (o : Obj) : World := { w with heap := w.heap.setIfInBounds g o }
theorem putObj_same (w : World) (g : Nat) (o : Obj) (h : g < w.heap.size) : (putObj w g o).heap[g]? = some o := by simp [putObj, h]
theorem putObj_other (w : World) (g k : Nat) (o : Obj) (h : k ≠ g) : (putObj w g o).heap[k]? = w.heap[k]? := by
  simp [putObj, Array.getElem?_setIfInBounds_ne (Ne.symm h)]
theorem putObj_below (w : World) (base g : Nat) (o : Obj) (h : base ≤ g) : Below base w (putObj w g o) :=
  ⟨rfl, rfl, rfl, by simp [putObj], fun k hk => putObj_other _ _ _ _ (by omega)⟩

section
variable {m : Mp} {H : Tr AObj} {w : World} {base : Nat}

theorem HRel.live_lt (h : HRel m H w base) {b : Nat} (hb : liveIn H b) : ∃ l, m b = some l ∧ l.cb < w.heap.size := by
  obtain ⟨o, ho, hd⟩ := hb
  cases o with
  | dead => exact absurd rfl hd
  | cells cs rw old esz => obtain ⟨l, c, e, fz, h1, _, h3, _⟩ := h.cells _ _ _ _ _ ho; exact ⟨l, h1, (Array.getElem?_eq_some_iff.1 h3).1⟩
  | iter s pos => obtain ⟨l, h1, _, _, h3⟩ := h.iter _ _ _ ho; exact ⟨l, h1, (Array.getElem?_eq_some_iff.1 h3).1⟩
  | map es => obtain ⟨l, ces, clock, h1, _, h3, _⟩ := h.map _ _ ho; exact ⟨l, h1, (Array.getElem?_eq_some_iff.1 h3).1⟩

theorem HRel.not_live (h : HRel m H w base) {b : Nat} (hb : m b = none) : ¬ liveIn H b := fun hl => by
  obtain ⟨l, h1, _⟩ := h.live_lt hl
  rw [hb] at h1; cases h1

/-- An older object ends. -/
theorem HRel.kill1 (h : HRel m H w base) (o : Nat) : HRel m (H.set o .dead) w base := by
  have hne : ∀ {b x}, (H.set o .dead).get b = some x → x ≠ .dead → H.get b = some x ∧ b ≠ o := by
    intro b x e hx
    by_cases hb : b = o
    · subst hb; rw [Tr.get_set_eq] at e; cases e; exact absurd rfl hx
    · rw [Tr.get_set_ne _ _ hb] at e; exact ⟨e, hb⟩
  have hlive : ∀ {b}, liveIn (H.set o .dead) b → liveIn H b ∧ b ≠ o := by
    rintro b ⟨x, hx, hd⟩
    obtain ⟨h1, h2⟩ := hne hx hd
    exact ⟨⟨x, h1, hd⟩, h2⟩
  have hold : ∀ {a b}, oldIn (H.set o .dead) a b → oldIn H a b := by
    rintro a b ⟨cs, rw, old, esz, hx, ha⟩
    exact ⟨cs, rw, old, esz, (hne hx (by simp)).1, ha⟩
  refine ⟨h.bs, fun b cs rw old esz e => h.cells b cs rw old esz (hne e (by simp)).1, fun b s p e => h.iter b s p (hne e (by simp)).1, fun b es e => h.map b es (hne e (by simp)).1, ?_, ?_, fun a b hab => h.olds a b (hold hab), ?_⟩
  · intro a b l k ha hb hab hma hmb hcb hbase
    obtain ⟨ha1, ha2⟩ := hlive ha
    obtain ⟨hb1, hb2⟩ := hlive hb
    rcases h.sep a b l k ha1 hb1 hab hma hmb hcb hbase with ⟨cs, rw, old, esz, hx, hin⟩ | ⟨cs, rw, old, esz, hx, hin⟩
    · exact .inl ⟨cs, rw, old, esz, by rw [Tr.get_set_ne _ _ hb2]; exact hx, hin⟩
    · exact .inr ⟨cs, rw, old, esz, by rw [Tr.get_set_ne _ _ ha2]; exact hx, hin⟩
  · intro a cs rw old esz b ds rw' old' esz' l k ha hb
    exact h.ends a cs rw old esz b ds rw' old' esz' l k (hne ha (by simp)).1 (hne hb (by simp)).1
  · intro a b hab x hx
    by_cases hao : a = o
    · subst hao; rw [Tr.get_set_eq] at hx; cases hx; exact .inl rfl
    · rw [Tr.get_set_ne _ _ hao] at hx; exact h.ro a b (hold hab) x hx

/-- A row is read alone from here on. -/
theorem HRel.retire1 (h : HRel m H w base) {b : Nat} {cs : List Value} {rw : Bool} {old : List Nat} {esz : Nat} (hb : H.get b = some (.cells cs rw old esz)) :
    HRel m (H.set b (.cells cs false old esz)) w base := by
  have hget : ∀ {a x}, (H.set b (.cells cs false old esz)).get a = some x → (a = b ∧ x = .cells cs false old esz) ∨ (a ≠ b ∧ H.get a = some x) := by
    intro a x e
    by_cases ha : a = b
    · subst ha; rw [Tr.get_set_eq] at e; cases e; exact .inl ⟨rfl, rfl⟩
    · rw [Tr.get_set_ne _ _ ha] at e; exact .inr ⟨ha, e⟩
  have hold : ∀ {a c}, oldIn (H.set b (.cells cs false old esz)) a c ↔ oldIn H a c := by
    intro a c
    constructor
    · rintro ⟨cs', rw', old', esz', hx, hin⟩
      rcases hget hx with ⟨rfl, e⟩ | ⟨_, e⟩
      · cases e; exact ⟨_, _, _, _, hb, hin⟩
      · exact ⟨_, _, _, _, e, hin⟩
    · rintro ⟨cs', rw', old', esz', hx, hin⟩
      by_cases hc : c = b
      · subst hc; rw [hb] at hx; cases hx; exact ⟨_, _, _, _, Tr.get_set_eq _ _ _, hin⟩
      · exact ⟨_, _, _, _, by rw [Tr.get_set_ne _ _ hc]; exact hx, hin⟩
  have hlive : ∀ {a}, liveIn (H.set b (.cells cs false old esz)) a → liveIn H a := by
    rintro a ⟨x, hx, hd⟩
    rcases hget hx with ⟨rfl, e⟩ | ⟨_, e⟩
    · exact ⟨_, hb, by simp⟩
    · exact ⟨x, e, hd⟩
  refine ⟨h.bs, ?_, ?_, ?_, ?_, ?_, fun a c hac => h.olds a c (hold.1 hac), ?_⟩
  · intro a cs' rw' old' esz' ex
    rcases hget ex with ⟨rfl, e1⟩ | ⟨_, e⟩
    · cases e1
      obtain ⟨l, c, e, fz, h1, h2, h3, h4, h5, h6, h7⟩ := h.cells _ _ _ _ _ hb
      exact ⟨l, c, e, fz, h1, h2, h3, h4, h5, h6, by simp⟩
    · exact h.cells _ _ _ _ _ e
  · intro a s p e
    rcases hget e with ⟨_, e⟩ | ⟨_, e⟩
    · cases e
    · exact h.iter _ _ _ e
  · intro a es e
    rcases hget e with ⟨_, e⟩ | ⟨_, e⟩
    · cases e
    · exact h.map _ _ e
  · intro a c l k ha hc
    rw [hold, hold]
    exact h.sep a c l k (hlive ha) (hlive hc)
  · intro a cs1 rw1 old1 esz1 c ds rw' old' esz' l k ha hc
    have ha' : ∃ rw2 old2 esz2, H.get a = some (.cells cs1 rw2 old2 esz2) := by
      rcases hget ha with ⟨rfl, e⟩ | ⟨_, e⟩
      · cases e; exact ⟨_, _, _, hb⟩
      · exact ⟨_, _, _, e⟩
    obtain ⟨rw2, old2, esz2, ha'⟩ := ha'
    rcases hget hc with ⟨rfl, e⟩ | ⟨_, e⟩
    · cases e; exact h.ends a cs1 rw2 old2 esz2 _ _ _ _ _ l k ha' hb
    · exact h.ends a cs1 rw2 old2 esz2 _ _ _ _ _ l k ha' e
  · intro a c hac x hx
    rcases hget hx with ⟨rfl, e⟩ | ⟨_, e⟩
    · exact .inr ⟨_, _, _, e⟩
    · exact h.ro a c (hold.1 hac) x e

/-- The older objects of a row that is written are gone: nothing else that lives lies in its memory. -/
theorem HRel.alone (h : HRel m H w base) {b : Nat} {cs : List Value} {old : List Nat} {esz : Nat} (hb : H.get b = some (.cells cs true old esz))
    (hold : ∀ a ∈ old, ¬ liveIn H a) {l : Lc} (hl : m b = some l) {a : Nat} (ha : liveIn H a) (hab : a ≠ b) {k : Lc} (hk : m a = some k) : k.cb ≠ l.cb := by
  intro e
  obtain ⟨l', c, e', fz, h1, _, _, _, _, _, h7⟩ := h.cells _ _ _ _ _ hb
  rw [hl] at h1; cases h1
  have hbase := (h7 rfl).1
  rcases h.sep a b k l ha ⟨_, hb, by simp⟩ hab hk hl e (by rw [e]; exact hbase) with ⟨cs', rw', old', esz', hx, hin⟩ | hba
  · rw [hb] at hx; cases hx
    exact hold a hin ha
  · rcases h.ro b a hba _ hb with e2 | ⟨_, _, _, e2⟩ <;> cases e2

/-- A row of one's own, written over from a place on. -/
theorem HRel.write (h : HRel m H w base) {b : Nat} {cs cs' : List Value} {old : List Nat} {esz : Nat} (hb : H.get b = some (.cells cs true old esz))
    (hold : ∀ a ∈ old, ¬ liveIn H a) {l : Lc} (hl : m b = some l) {c c' : Array Value} {e : TypeId} {fz : Nat × Nat} (hg : w.heap[l.cb]? = some (.cells c e fz))
    (hs : c'.size = c.size) (hlen : cs'.length = cs.length) (hrow : RowRel m cs' c' l.off) :
    HRel m (H.set b (.cells cs' true [] esz)) (putObj w l.cb (.cells c' e fz)) base := by
  obtain ⟨l', c0, e0, fz0, h1, h2, h3, h4, h5, _, h7⟩ := h.cells _ _ _ _ _ hb
  rw [hl] at h1; cases h1
  rw [hg] at h3; cases h3
  have hlt := (Array.getElem?_eq_some_iff.1 hg).1
  have hal := fun a (ha : liveIn H a) (hab : a ≠ b) k (hk : m a = some k) => h.alone hb hold hl ha hab hk
  have hget : ∀ {a x}, (H.set b (.cells cs' true [] esz)).get a = some x → (a = b ∧ x = .cells cs' true [] esz) ∨ (a ≠ b ∧ H.get a = some x) := by
    intro a x e
    by_cases ha : a = b
    · subst ha; rw [Tr.get_set_eq] at e; cases e; exact .inl ⟨rfl, rfl⟩
    · rw [Tr.get_set_ne _ _ ha] at e; exact .inr ⟨ha, e⟩
  have hlive : ∀ {a}, liveIn (H.set b (.cells cs' true [] esz)) a → liveIn H a := by
    rintro a ⟨x, hx, hd⟩
    rcases hget hx with ⟨rfl, _⟩ | ⟨_, e⟩
    · exact ⟨_, hb, by simp⟩
    · exact ⟨x, e, hd⟩
  have holdn : ∀ {a c}, oldIn (H.set b (.cells cs' true [] esz)) a c → c ≠ b ∧ oldIn H a c := by
    rintro a c ⟨cs1, rw1, old1, esz1, hx, hin⟩
    rcases hget hx with ⟨_, e⟩ | ⟨hc, e⟩
    · cases e; cases hin
    · exact ⟨hc, _, _, _, _, e, hin⟩
  refine ⟨by simpa [putObj] using h.bs, ?_, ?_, ?_, ?_, ?_, fun a c hac => h.olds a c (holdn hac).2, ?_⟩
  · intro a cs1 rw1 old1 esz1 ex
    rcases hget ex with ⟨rfl, e1⟩ | ⟨ha, ex⟩
    · cases e1
      exact ⟨l, c', e, fz, hl, h2, putObj_same _ _ _ hlt, by rw [hs]; exact h4, by rw [hlen]; exact h5, hrow, fun _ => by rw [hs]; exact h7 rfl⟩
    · obtain ⟨k, d, e1, fz1, g1, g2, g3, g4, g5, g6, g7⟩ := h.cells _ _ _ _ _ ex
      exact ⟨k, d, e1, fz1, g1, g2, by rw [putObj_other _ _ _ _ (hal a ⟨_, ex, by simp⟩ ha k g1)]; exact g3, g4, g5, g6, g7⟩
  · intro a s p ex
    rcases hget ex with ⟨_, ex⟩ | ⟨ha, ex⟩
    · cases ex
    · obtain ⟨k, g1, g2, g3, g4⟩ := h.iter _ _ _ ex
      exact ⟨k, g1, g2, g3, by rw [putObj_other _ _ _ _ (hal a ⟨_, ex, by simp⟩ ha k g1)]; exact g4⟩
  · intro a es ex
    rcases hget ex with ⟨_, ex⟩ | ⟨ha, ex⟩
    · cases ex
    · obtain ⟨k, ces, clock, g1, g2, g3, g4⟩ := h.map _ _ ex
      exact ⟨k, ces, clock, g1, g2, by rw [putObj_other _ _ _ _ (hal a ⟨_, ex, by simp⟩ ha k g1)]; exact g3, g4⟩
  · intro a d k1 k2 ha hd had hka hkd hcb hbase
    by_cases hab : a = b
    · subst hab
      rw [hl] at hka; cases hka
      exact absurd hcb.symm (hal d (hlive hd) (Ne.symm had) k2 hkd)
    · by_cases hdb : d = b
      · subst hdb
        rw [hl] at hkd; cases hkd
        exact absurd hcb (hal a (hlive ha) had k1 hka)
      · rcases h.sep a d k1 k2 (hlive ha) (hlive hd) had hka hkd hcb hbase with ⟨cs1, rw1, old1, esz1, hx, hin⟩ | ⟨cs1, rw1, old1, esz1, hx, hin⟩
        · exact .inl ⟨_, _, _, _, by rw [Tr.get_set_ne _ _ hdb]; exact hx, hin⟩
        · exact .inr ⟨_, _, _, _, by rw [Tr.get_set_ne _ _ hab]; exact hx, hin⟩
  · intro a cs1 rw1 old1 esz1 d ds rw' old' esz' k1 k2 ha hd hin hka hkd hcb
    rcases hget hd with ⟨_, ex⟩ | ⟨hdb, ex⟩
    · cases ex; cases hin
    · rcases hget ha with ⟨rfl, ex2⟩ | ⟨hab, ex2⟩
      · cases ex2
        rcases h.ro a d ⟨_, _, _, _, ex, hin⟩ _ hb with e2 | ⟨_, _, _, e2⟩ <;> cases e2
      · exact h.ends a _ _ _ _ d _ _ _ _ k1 k2 ex2 ex hin hka hkd hcb
  · intro a d had x hx
    obtain ⟨hdb, hod⟩ := holdn had
    rcases hget hx with ⟨rfl, ex⟩ | ⟨_, ex⟩
    · rcases h.ro a d hod _ hb with e2 | ⟨_, _, _, e2⟩ <;> cases e2
    · exact h.ro a d hod x ex

/-- An object of one's own that is no row, in another form. -/
theorem HRel.turn (h : HRel m H w base) {b : Nat} {x y : AObj} (hb : H.get b = some x) {l : Lc} (hl : m b = some l) (hbase : base ≤ l.cb) {o : Obj}
    (hx : (∃ s p, x = .iter s p) ∨ ∃ es, x = .map es)
    (hy : (∃ s p, y = .iter s p ∧ l.off = 0 ∧ o = .stringIter s p) ∨ ∃ es ces clock, y = .map es ∧ o = .map ces clock ∧ ces.size = es.length ∧ ∀ (i : Nat) (p : Value × Value), es[i]? = some p → ∃ q : MapEntry, ces[i]? = some q ∧ VRel m p.1 q.key ∧ VRel m p.2 q.val) :
    HRel m (H.set b y) (putObj w l.cb o) base := by
  have hxd : x ≠ .dead := by rcases hx with ⟨s, p, rfl⟩ | ⟨es, rfl⟩ <;> simp
  have hyd : y ≠ .dead := by rcases hy with ⟨s, p, rfl, _⟩ | ⟨es, _, _, rfl, _⟩ <;> simp
  have hxc : ∀ cs rw old esz, x ≠ .cells cs rw old esz := by rcases hx with ⟨s, p, rfl⟩ | ⟨es, rfl⟩ <;> simp
  have hyc : ∀ cs rw old esz, y ≠ .cells cs rw old esz := by rcases hy with ⟨s, p, rfl, _⟩ | ⟨es, _, _, rfl, _⟩ <;> simp
  have hlivb : liveIn H b := ⟨x, hb, hxd⟩
  have hlt : l.cb < w.heap.size := by obtain ⟨l', h1, h2⟩ := h.live_lt hlivb; rw [hl] at h1; cases h1; exact h2
  have hnold : ∀ a, ¬ oldIn H b a := by
    intro a ha
    rcases h.ro b a ha _ hb with e | ⟨_, _, _, e⟩
    · exact hxd e
    · exact hxc _ _ _ _ e
  have hnold' : ∀ a, ¬ oldIn H a b := by
    rintro a ⟨_, _, _, _, e, _⟩
    rw [hb] at e; cases e; exact hxc _ _ _ _ rfl
  have hal : ∀ a, liveIn H a → a ≠ b → ∀ k, m a = some k → k.cb ≠ l.cb := by
    intro a ha hab k hk e
    rcases h.sep a b k l ha hlivb hab hk hl e (by rw [e]; exact hbase) with h1 | h1
    · exact hnold' _ h1
    · exact hnold _ h1
  have hget : ∀ {a z}, (H.set b y).get a = some z → (a = b ∧ z = y) ∨ (a ≠ b ∧ H.get a = some z) := by
    intro a z e
    by_cases ha : a = b
    · subst ha; rw [Tr.get_set_eq] at e; cases e; exact .inl ⟨rfl, rfl⟩
    · rw [Tr.get_set_ne _ _ ha] at e; exact .inr ⟨ha, e⟩
  have hlive : ∀ {a}, liveIn (H.set b y) a → liveIn H a := by
    rintro a ⟨z, hz, hd⟩
    rcases hget hz with ⟨rfl, _⟩ | ⟨_, e⟩
    · exact hlivb
    · exact ⟨z, e, hd⟩
  have hold : ∀ {a c}, oldIn (H.set b y) a c ↔ oldIn H a c := by
    intro a c
    constructor
    · rintro ⟨cs', rw', old', esz', hz, hin⟩
      rcases hget hz with ⟨_, e⟩ | ⟨_, e⟩
      · exact absurd e.symm (hyc _ _ _ _)
      · exact ⟨_, _, _, _, e, hin⟩
    · intro ho
      have ho' := ho
      obtain ⟨cs', rw', old', esz', hz, hin⟩ := ho'
      have hcb : c ≠ b := fun e => by subst e; exact hnold' _ ho
      exact ⟨_, _, _, _, by rw [Tr.get_set_ne _ _ hcb]; exact hz, hin⟩
  refine ⟨by simpa [putObj] using h.bs, ?_, ?_, ?_, ?_, ?_, fun a c hac => h.olds a c (hold.1 hac), ?_⟩
  · intro a cs rw old esz ex
    rcases hget ex with ⟨_, e⟩ | ⟨ha, ex⟩
    · exact absurd e.symm (hyc _ _ _ _)
    · obtain ⟨k, d, e1, fz1, g1, g2, g3, g4⟩ := h.cells _ _ _ _ _ ex
      exact ⟨k, d, e1, fz1, g1, g2, by rw [putObj_other _ _ _ _ (hal a ⟨_, ex, by simp⟩ ha k g1)]; exact g3, g4⟩
  · intro a s p ex
    rcases hget ex with ⟨rfl, e⟩ | ⟨ha, ex⟩
    · rcases hy with ⟨s', p', rfl, ho, rfl⟩ | ⟨es, _, _, rfl, _⟩
      · cases e; exact ⟨l, hl, ho, hbase, putObj_same _ _ _ hlt⟩
      · cases e
    · obtain ⟨k, g1, g2, g3, g4⟩ := h.iter _ _ _ ex
      exact ⟨k, g1, g2, g3, by rw [putObj_other _ _ _ _ (hal a ⟨_, ex, by simp⟩ ha k g1)]; exact g4⟩
  · intro a es ex
    rcases hget ex with ⟨rfl, e⟩ | ⟨ha, ex⟩
    · rcases hy with ⟨s', p', rfl, ho, rfl⟩ | ⟨es', ces, clock, rfl, rfl, hsz, hall⟩
      · cases e
      · cases e; exact ⟨l, ces, clock, hl, hbase, putObj_same _ _ _ hlt, hsz, hall⟩
    · obtain ⟨k, ces, clock, g1, g2, g3, g4⟩ := h.map _ _ ex
      exact ⟨k, ces, clock, g1, g2, by rw [putObj_other _ _ _ _ (hal a ⟨_, ex, by simp⟩ ha k g1)]; exact g3, g4⟩
  · intro a c k1 k2 ha hc
    rw [hold, hold]
    exact h.sep a c k1 k2 (hlive ha) (hlive hc)
  · intro a cs1 rw1 old1 esz1 c ds rw' old' esz' k1 k2 ha hc
    rcases hget ha with ⟨_, e⟩ | ⟨_, ea⟩
    · exact absurd e.symm (hyc _ _ _ _)
    · rcases hget hc with ⟨_, e⟩ | ⟨_, ec⟩
      · exact absurd e.symm (hyc _ _ _ _)
      · exact h.ends a _ _ _ _ c _ _ _ _ k1 k2 ea ec
  · intro a c hac z hz
    rcases hget hz with ⟨rfl, _⟩ | ⟨_, e⟩
    · exact absurd (hold.1 hac) (hnold _)
    · exact h.ro a c (hold.1 hac) z e

/-- A new object, in a block or in the spare room behind a row that is read alone from here on. 'co': what the block holds. -/
theorem HRel.new (h : HRel m H w base) {n : Nat} (hn : m n = none) {w' : World} {l : Lc} {o : AObj} (hbelow : base ≤ w'.heap.size)
    (hkeep : ∀ a, liveIn H a → ∀ k, m a = some k → w'.heap[k.cb]? = w.heap[k.cb]? ∨ (k.cb = l.cb ∧ ∃ c c' e fz, w.heap[k.cb]? = some (.cells c e fz) ∧ w'.heap[k.cb]? = some (.cells c' e fz) ∧ c'.size = c.size ∧
      ∀ cs rw old esz, H.get a = some (.cells cs rw old esz) → rw = false ∧ ∀ j, j < k.off + cs.length → c'[j]? = c[j]?))
    (hdead : o ≠ .dead)
    (hc : ∀ cs rw old esz, o = .cells cs rw old esz → l.esz = esz ∧ ∃ c e fz, w'.heap[l.cb]? = some (.cells c e fz) ∧ c.size = l.sz ∧ l.off + cs.length ≤ l.sz ∧ RowRel m cs c l.off ∧ (rw = true → base ≤ l.cb ∧ NoFz c.size fz))
    (hi : ∀ s p, o = .iter s p → l.off = 0 ∧ base ≤ l.cb ∧ w'.heap[l.cb]? = some (.stringIter s p))
    (hm : ∀ es, o = .map es → ∃ ces clock, base ≤ l.cb ∧ w'.heap[l.cb]? = some (.map ces clock) ∧ ces.size = es.length ∧ ∀ (i : Nat) (p : Value × Value), es[i]? = some p → ∃ q : MapEntry, ces[i]? = some q ∧ VRel m p.1 q.key ∧ VRel m p.2 q.val)
    (hsep : ∀ a k, liveIn H a → m a = some k → k.cb = l.cb → base ≤ l.cb → ∃ cs rw old esz, o = .cells cs rw old esz ∧ a ∈ old)
    (hends : ∀ cs rw old esz, o = .cells cs rw old esz → ∀ a ∈ old, ∀ ds rw' old' esz' k, H.get a = some (.cells ds rw' old' esz') → m a = some k → k.cb = l.cb → k.off + ds.length ≤ l.off + cs.length)
    (hro : ∀ cs rw old esz, o = .cells cs rw old esz → ∀ a ∈ old, (∃ k, m a = some k) ∧ ∀ x, H.get a = some x → x = .dead ∨ ∃ cs' old' esz', x = .cells cs' false old' esz') :
    HRel (upd m n l) (H.set n o) w' base := by
  have hle := upd_le (l := l) hn
  have hnl : ¬ liveIn H n := h.not_live hn
  have hget : ∀ {a x}, (H.set n o).get a = some x → (a = n ∧ x = o) ∨ (a ≠ n ∧ H.get a = some x) := by
    intro a x e
    by_cases ha : a = n
    · subst ha; rw [Tr.get_set_eq] at e; cases e; exact .inl ⟨rfl, rfl⟩
    · rw [Tr.get_set_ne _ _ ha] at e; exact .inr ⟨ha, e⟩
  have hlive : ∀ {a}, liveIn (H.set n o) a → a = n ∨ (a ≠ n ∧ liveIn H a) := by
    rintro a ⟨x, hx, hd⟩
    rcases hget hx with ⟨rfl, _⟩ | ⟨ha, e⟩
    · exact .inl rfl
    · exact .inr ⟨ha, x, e, hd⟩
  have hnold : ∀ a, ¬ oldIn H n a := fun a ha => by
    obtain ⟨k, hk⟩ := h.olds n a ha
    rw [hn] at hk; cases hk
  have hnin : ∀ cs rw old esz, o = .cells cs rw old esz → n ∉ old := fun cs rw old esz e hin => by
    obtain ⟨⟨k, hk⟩, _⟩ := hro _ _ _ _ e n hin
    rw [hn] at hk; cases hk
  refine ⟨hbelow, ?_, ?_, ?_, ?_, ?_, ?_, ?_⟩
  · intro a cs rw old esz ex
    rcases hget ex with ⟨rfl, e⟩ | ⟨ha, ex⟩
    · obtain ⟨g1, c, e1, fz, g2, g3, g4, g5, g6⟩ := hc _ _ _ _ e.symm
      exact ⟨l, c, e1, fz, upd_eq _ _ _, g1, g2, g3, g4, g5.mono hle, g6⟩
    · obtain ⟨k, d, e1, fz1, g1, g2, g3, g4, g5, g6, g7⟩ := h.cells _ _ _ _ _ ex
      rcases hkeep a ⟨_, ex, by simp⟩ k g1 with hk | ⟨_, c, c', e2, fz2, k1, k2, k3, k4⟩
      · exact ⟨k, d, e1, fz1, by rw [upd_ne _ _ ha]; exact g1, g2, by rw [hk]; exact g3, g4, g5, g6.mono hle, g7⟩
      · rw [g3] at k1
        simp only [Option.some.injEq, Obj.cells.injEq] at k1
        obtain ⟨rfl, rfl, rfl⟩ := k1
        obtain ⟨hrw, hcells⟩ := k4 _ _ _ _ ex
        refine ⟨k, c', e1, fz1, by rw [upd_ne _ _ ha]; exact g1, g2, k2, by rw [k3]; exact g4, g5, ?_, fun hr => by rw [hrw] at hr; cases hr⟩
        intro i v hv
        obtain ⟨v', hv', hr⟩ := g6 i v hv
        refine ⟨v', ?_, hr.mono hle⟩
        rw [hcells _ (by have := (List.getElem?_eq_some_iff.1 hv).1; omega)]; exact hv'
  · intro a s p ex
    rcases hget ex with ⟨rfl, e⟩ | ⟨ha, ex⟩
    · obtain ⟨g1, g2, g3⟩ := hi _ _ e.symm
      exact ⟨l, upd_eq _ _ _, g1, g2, g3⟩
    · obtain ⟨k, g1, g2, g3, g4⟩ := h.iter _ _ _ ex
      rcases hkeep a ⟨_, ex, by simp⟩ k g1 with hk | ⟨_, c, c', e2, fz2, k1, _⟩
      · exact ⟨k, by rw [upd_ne _ _ ha]; exact g1, g2, g3, by rw [hk]; exact g4⟩
      · rw [g4] at k1; cases k1
  · intro a es ex
    rcases hget ex with ⟨rfl, e⟩ | ⟨ha, ex⟩
    · obtain ⟨ces, clock, g1, g2, g3, g4⟩ := hm _ e.symm
      exact ⟨l, ces, clock, upd_eq _ _ _, g1, g2, g3, fun i p hp => let ⟨q, a1, a2, a3⟩ := g4 i p hp; ⟨q, a1, a2.mono hle, a3.mono hle⟩⟩
    · obtain ⟨k, ces, clock, g1, g2, g3, g4, g5⟩ := h.map _ _ ex
      rcases hkeep a ⟨_, ex, by simp⟩ k g1 with hk | ⟨_, c, c', e2, fz2, k1, _⟩
      · exact ⟨k, ces, clock, by rw [upd_ne _ _ ha]; exact g1, g2, by rw [hk]; exact g3, g4, fun i p hp => let ⟨q, a1, a2, a3⟩ := g5 i p hp; ⟨q, a1, a2.mono hle, a3.mono hle⟩⟩
      · rw [g3] at k1; cases k1
  · intro a b k1 k2 ha hb hab hka hkb hcb hbase
    rcases hlive ha with han | ⟨han, ha'⟩
    · rcases hlive hb with hbn | ⟨hbn, hb'⟩
      · exact absurd (han.trans hbn.symm) hab
      · rw [han, upd_eq] at hka; cases hka
        rw [upd_ne _ _ hbn] at hkb
        obtain ⟨cs, rw, old, esz, e, hin⟩ := hsep b k2 hb' hkb hcb.symm hbase
        exact .inr ⟨cs, rw, old, esz, by rw [han, Tr.get_set_eq, e], hin⟩
    · rw [upd_ne _ _ han] at hka
      rcases hlive hb with hbn | ⟨hbn, hb'⟩
      · rw [hbn, upd_eq] at hkb; cases hkb
        obtain ⟨cs, rw, old, esz, e, hin⟩ := hsep a k1 ha' hka hcb (by rw [← hcb]; exact hbase)
        exact .inl ⟨cs, rw, old, esz, by rw [hbn, Tr.get_set_eq, e], hin⟩
      · rw [upd_ne _ _ hbn] at hkb
        rcases h.sep a b k1 k2 ha' hb' hab hka hkb hcb hbase with ⟨cs, rw, old, esz, hx, hin⟩ | ⟨cs, rw, old, esz, hx, hin⟩
        · exact .inl ⟨_, _, _, _, by rw [Tr.get_set_ne _ _ hbn]; exact hx, hin⟩
        · exact .inr ⟨_, _, _, _, by rw [Tr.get_set_ne _ _ han]; exact hx, hin⟩
  · intro a cs rw old esz b ds rw' old' esz' k1 k2 ha hb hin hka hkb hcb
    rcases hget hb with ⟨hbn, e⟩ | ⟨hbn, eb⟩
    · rw [hbn, upd_eq] at hkb; cases hkb
      rcases hget ha with ⟨han, e2⟩ | ⟨han, ea⟩
      · rw [han] at hin; exact absurd hin (hnin _ _ _ _ e.symm)
      · rw [upd_ne _ _ han] at hka
        exact hends _ _ _ _ e.symm a hin _ _ _ _ k1 ea hka hcb
    · rw [upd_ne _ _ hbn] at hkb
      rcases hget ha with ⟨han, e2⟩ | ⟨han, ea⟩
      · rw [han] at hin; exact absurd ⟨_, _, _, _, eb, hin⟩ (hnold b)
      · rw [upd_ne _ _ han] at hka
        exact h.ends a _ _ _ _ b _ _ _ _ k1 k2 ea eb hin hka hkb hcb
  · intro a b hab
    obtain ⟨cs, rw, old, esz, hb, hin⟩ := hab
    rcases hget hb with ⟨hbn, e⟩ | ⟨hbn, eb⟩
    · obtain ⟨⟨k, hk⟩, _⟩ := hro _ _ _ _ e.symm a hin
      exact ⟨k, hle _ _ hk⟩
    · obtain ⟨k, hk⟩ := h.olds a b ⟨_, _, _, _, eb, hin⟩
      exact ⟨k, hle _ _ hk⟩
  · intro a b hab x hx
    obtain ⟨cs, rw, old, esz, hb, hin⟩ := hab
    rcases hget hb with ⟨hbn, e⟩ | ⟨hbn, eb⟩
    · rcases hget hx with ⟨han, e2⟩ | ⟨han, ex⟩
      · rw [han] at hin; exact absurd hin (hnin _ _ _ _ e.symm)
      · exact (hro _ _ _ _ e.symm a hin).2 x ex
    · rcases hget hx with ⟨han, e2⟩ | ⟨han, ex⟩
      · rw [han] at hin; exact absurd ⟨_, _, _, _, eb, hin⟩ (hnold b)
      · exact h.ro a b ⟨_, _, _, _, eb, hin⟩ x ex
end
end Go.Shade
