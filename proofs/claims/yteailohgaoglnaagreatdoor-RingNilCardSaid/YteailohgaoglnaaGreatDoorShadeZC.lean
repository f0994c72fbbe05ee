/- What a laid table's cells are, for tables of rows. -/
import Derived.Test.YteailohgaoglnaaGreatDoorShadeZB
import Derived.Lib.LaidTab
namespace Go.Shade
set_option linter.unusedVariables false

theorem cells_of_tab2 {H : Type} {enc : TypeId × Value → H} {P : Program} {w : World} {base : Nat} {sp : Nat → Bool} {held : Bool} {fuel : Nat} {t e f : TypeId} {n m : Nat} {k : IntKind} {cs : List Value} {rows : List (List Int)} {p : List MemPlace}
    (ht : P.underlying t = some (.array n e)) (he : P.underlying e = some (.array m f)) (hf : P.underlying f = some (.int k)) (hcf : P.cellsOf f = 1) (hce : P.cellsOf e = m) (hct : P.cellsOf t = n * m)
    (h : DataW.trod enc P w base sp held fuel t cs = some (.agg (rows.map (Lib.tabData k)), p)) : cs.length = n * m ∧ rows.length = n ∧ ∀ i, i < n → (cs.drop (i * m)).take m = (rows.getD i []).map (Value.int k) := by
  cases fuel with
  | zero => simp [DataW.trod] at h
  | succ fuel =>
    simp only [DataW.trod, ht, hce, hct] at h
    split at h
    · rename_i hl
      obtain ⟨xs, hm, hx⟩ := Option.map_eq_some_iff.1 h
      have hxs : xs.map (·.1) = rows.map (Lib.tabData k) := by
        have := congrArg Prod.fst hx
        simpa using this
      have hxl : xs.length = n := by simpa using Lib.mapM_length hm
      have hzl : rows.length = n := by
        have := congrArg List.length hxs
        simp at this
        omega
      refine ⟨by simpa using hl, hzl, fun i hi => ?_⟩
      obtain ⟨b, hb, hfb⟩ := Lib.mapM_at hm i i (by simp [hi])
      have h2 : (xs.map (·.1))[i]? = some b.1 := by simp [hb]
      rw [hxs] at h2
      obtain ⟨r, hr, hrb⟩ : ∃ r, rows[i]? = some r ∧ Lib.tabData k r = b.1 := by simpa using h2
      obtain ⟨b1, b2⟩ := b
      simp only [] at hrb
      subst hrb
      rw [Lib.cells_of_tab he hf hcf hce hfb]
      simp [List.getD, hr]
    · cases h

theorem var?_block {P : Program} {w : World} {n : String} {g : Nat} {cs : Array Value} (hg : P.globalNamed n = some g) (h : w.var? P n = some cs) : ∃ e fz, w.heap[g]? = some (.cells cs e fz) := by
  simp only [World.var?, hg, Option.bind_some] at h
  split at h <;> simp_all

/-- A table of rows that stands on the list. -/
theorem tab2_cells {P : Program} {W : World} {name : String} {k : IntKind} {rows : List (List Int)} {g : Nat} {t e f : TypeId} {n m : Nat} {laid : List (String × DataW Unit)}
    (hg : P.globalNamed name = some g) (hty : (P.globals[g]?).map (·.type) = some t) (ht : P.underlying t = some (.array n e)) (he : P.underlying e = some (.array m f)) (hf : P.underlying f = some (.int k)) (hcf : P.cellsOf f = 1) (hce : P.cellsOf e = m) (hct : P.cellsOf t = n * m)
    (h : ∃ ps, DataW.LaidVars P W ((name, .agg (rows.map (Lib.tabData k))) :: laid) ps) (hrow : ∀ q, q < n * m → (rows.flatten)[q]? = (rows.getD (q / m) [])[q % m]?) (hlen : rows.flatten.length = n * m) :
    (∃ e fz c, W.heap[g]? = some (.cells c e fz) ∧ c.toList = rows.flatten.map (Value.int k)) ∧ ∃ q, DataW.LaidVars P W laid q := by
  obtain ⟨ps, g', t', cs, fuel, p, q, hg', ht', hvar, hd, hrest, _⟩ := h
  obtain rfl := Option.some.inj (hg.symm.trans hg')
  obtain rfl := Option.some.inj (hty.symm.trans ht')
  obtain ⟨h1, h2, h3⟩ := cells_of_tab2 ht he hf hcf hce hct hd
  refine ⟨?_, q, hrest⟩
  obtain ⟨e', fz, hblk⟩ := var?_block hg hvar
  refine ⟨e', fz, _, hblk, ?_⟩
  have : ∀ l : List Value, l.length = n * m → (∀ i, i < n → (l.drop (i * m)).take m = (rows.getD i []).map (Value.int k)) → l = rows.flatten.map (Value.int k) := by
    intro l hl hr
    apply List.ext_getElem?
    intro q
    by_cases hq : q < n * m
    · have hm : 0 < m := by rcases Nat.eq_zero_or_pos m with h | h; subst h; simp at hq; exact h
      have hi : q / m < n := (Nat.div_lt_iff_lt_mul hm).2 hq
      have hmod : q % m < m := Nat.mod_lt _ hm
      have h4 := congrArg (·[q % m]?) (hr (q / m) hi)
      simp only [List.getElem?_take, if_pos hmod, List.getElem?_drop, List.getElem?_map] at h4
      rw [show q / m * m + q % m = q from Nat.div_add_mod' q m] at h4
      rw [h4, List.getElem?_map, hrow q hq]
    · rw [List.getElem?_eq_none (by omega), List.getElem?_eq_none (by simp only [List.length_map]; omega)]
  exact this _ h1 h3

/-- A row of atoms, as it lies. -/
theorem atoms_row {m : Mp} {c : Array Value} {cs : List Value} (h : c.toList = cs) (ha : ∀ v ∈ cs, atomic v = true) : RowRel m cs c 0 := by
  intro i v hv
  refine ⟨v, ?_, .atom (ha v (List.mem_of_getElem? hv))⟩
  rw [Nat.zero_add, ← Array.getElem?_toList, h]; exact hv
end Go.Shade
