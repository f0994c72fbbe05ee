import Derived.Test.YteailohgaoglnaaGreatDoorShadeZC
import Derived.Test.YteailohgaoglnaaGreatDoorCards
import Derived.Test.YteailohgaoglnaaGreatDoorTie
import Derived.WalkKit
import Derived.ProofKit
import Derived.OpenShut
import Derived.Carry
import Derived.ChangeSlices
import Derived.Deep.DeepHandedRow
namespace Go.Proofs.YteailohgaoglnaaGreatDoor.ringNil
open Go.ChangeShapes Go.WideShapes Go.ChangeAt Go.RowKit Go.Shade
set_option maxRecDepth 100000
set_option linter.unusedVariables false

def rowsNone : List (List Int) := [[768, 879], [8203, 8207], [65024, 65039]]
def rowsWide : List (List Int) := [[4352, 4447], [11904, 12350], [12353, 42191], [44032, 55203], [63744, 64255], [65072, 65135], [65280, 65376], [65504, 65510], [127744, 128591], [131072, 262141]]
def cellsNone : List Value := [.int .i32 768, .int .i32 879, .int .i32 8203, .int .i32 8207, .int .i32 65024, .int .i32 65039]
def cellsWide : List Value := [.int .i32 4352, .int .i32 4447, .int .i32 11904, .int .i32 12350, .int .i32 12353, .int .i32 42191, .int .i32 44032, .int .i32 55203, .int .i32 63744, .int .i32 64255, .int .i32 65072, .int .i32 65135, .int .i32 65280, .int .i32 65376, .int .i32 65504, .int .i32 65510, .int .i32 127744, .int .i32 128591, .int .i32 131072, .int .i32 262141]
def heap0 : Tr AObj := (Tr.nil.set 0 (.cells cellsNone false [] 0)).set 1 (.cells cellsWide false [] 0)
theorem own : ownKnob Tryz.prog.godebug = none := by kernel_rfl
theorem laidOut : laidOutB Tryz.prog = true := by kernel_rfl
theorem gN : Tryz.prog.globalNamed "spyglass/utf.none" = some 0 := by kernel_rfl
theorem gW : Tryz.prog.globalNamed "spyglass/utf.wide" = some 1 := by kernel_rfl
theorem gS : Tryz.prog.globals.size = 5 := by kernel_rfl
theorem u22 : Tryz.prog.underlying 22 = some (.int .u64) := by kernel_rfl
theorem u23 : Tryz.prog.underlying 23 = some (.slice 5) := by kernel_rfl
theorem u5 : Tryz.prog.underlying 5 = some (.int .u8) := by kernel_rfl
theorem c5 : Tryz.prog.cellsOf 5 = 1 := by kernel_rfl
theorem u4 : Tryz.prog.underlying 4 = some .bool := by kernel_rfl
theorem params3 : Tryz.f3.params = #[22, 23] := by kernel_rfl
theorem pok : ProgOK Tryz.prog := progOK_of (by kernel_rfl)
theorem nilRun (y x : Value) : ((evF Tryz.prog 10000 30 3 [y, x] none ⟨6, heap0, 0, []⟩).map (fun r => r.1)) = some (.ret (.bool true) false) := by kernel_rfl

theorem tables {W : World} (h : laidMetH Tryz.prog Rows.ringNilRow.laid W) : (∃ e fz c, W.heap[0]? = some (.cells c e fz) ∧ c.toList = cellsNone) ∧ ∃ e fz c, W.heap[1]? = some (.cells c e fz) ∧ c.toList = cellsWide := by
  have h0 : laidMet Tryz.prog (("spyglass/utf.none", .agg (rowsNone.map (Lib.tabData .i32))) :: [("spyglass/utf.wide", .agg (rowsWide.map (Lib.tabData .i32)))]) W := h
  obtain ⟨ps, h1, _⟩ := h0
  obtain ⟨a, q, h2⟩ := tab2_cells gN (t := 248) (by kernel_rfl) (n := 3) (e := 247) (by kernel_rfl) (m := 2) (f := 21) (by kernel_rfl) (by kernel_rfl) (by kernel_rfl) (by kernel_rfl) (by kernel_rfl) ⟨ps, h1⟩ (by decide) (by decide)
  obtain ⟨b, _⟩ := tab2_cells gW (t := 249) (by kernel_rfl) (n := 10) (e := 247) (by kernel_rfl) (m := 2) (f := 21) (by kernel_rfl) (by kernel_rfl) (by kernel_rfl) (by kernel_rfl) (by kernel_rfl) ⟨q, h2⟩ (by decide) (by decide)
  exact ⟨a, b⟩

theorem start {W : World} (h : laidMetH Tryz.prog Rows.ringNilRow.laid W) (ex : List Lc) : ∃ sz, HRel (mapOf Tryz.prog.globals.size sz ex) heap0 W W.heap.size := by
  obtain ⟨⟨e0, z0, c0, h0, l0⟩, e1, z1, c1, h1, l1⟩ := tables h
  refine ⟨fun b => if b = 0 then 6 else 20, HRel.init fun b x hb => ?_⟩
  unfold heap0 at hb
  by_cases hb1 : b = 1
  · subst hb1
    rw [Tr.get_set_eq] at hb
    cases hb
    refine ⟨_, _, ⟨1, 0, 20, 0⟩, c1, e1, z1, rfl, by rw [gS]; rfl, rfl, h1, ?_, ?_, atoms_row l1 (by decide)⟩
    · have := congrArg List.length l1; simpa [cellsWide] using this
    · simp [cellsWide]
  · rw [Tr.get_set_ne _ _ hb1] at hb
    by_cases hb0 : b = 0
    · subst hb0
      rw [Tr.get_set_eq] at hb
      cases hb
      refine ⟨_, _, ⟨0, 0, 6, 0⟩, c0, e0, z0, rfl, by rw [gS]; rfl, rfl, h0, ?_, ?_, atoms_row l0 (by decide)⟩
      · have := congrArg List.length l0; simpa [cellsNone] using this
      · simp [cellsNone]
    · rw [Tr.get_set_ne _ _ hb0, Tr.get_nil] at hb
      cases hb

theorem walk {W : World} (hL : laidMetH Tryz.prog Rows.ringNilRow.laid W) {v0 v1 : Value} (h0 : ∃ n, v0 = .int .u64 n) (h1 : v1 = .slice none 0 0 ∨ (∃ a, v1 = .slice (some a) 0 0) ∨ ∃ b off len cap, v1 = .slice (some ⟨b, off, none⟩) len cap) :
    Calls Tryz.prog 3 #[v0, v1] W fun e w' => e = .returned (.bool true) ∧ Below W.heap.size W w' := by
  obtain ⟨n, rfl⟩ := h0
  have main : ∀ (ex : List Lc) (x : Value), ex.length ≤ 1 → (∀ sz, VRel (mapOf Tryz.prog.globals.size sz ex) x v1) → Calls Tryz.prog 3 #[.int .u64 n, v1] W fun e w' => e = .returned (.bool true) ∧ Below W.heap.size W w' := by
    intro ex x hx hv
    obtain ⟨sz, hr⟩ := start hL ex
    obtain ⟨r, hr1, hr2⟩ := Option.map_eq_some_iff.1 (nilRun (.int .u64 n) x)
    obtain ⟨o, s'⟩ := r
    simp only [] at hr2
    subst hr2
    exact calls_true pok hr1 hr (mapOf_glob sz ex) (fun b hb => mapOf_fresh b (by rw [gS]; omega)) (.cons (.atom rfl) (.cons (hv sz) .nil))
  rcases h1 with rfl | ⟨a, rfl⟩ | ⟨b, off, len, cap, rfl⟩
  · exact main [] (.slice none 0 0) (by simp) fun _ => .nilSlice (c := 0)
  · exact main [] (.slice (some voidA) 0 1) (by simp) fun _ => .voidE
  · refine main [⟨b, 0, 0, 0⟩] (.slice (some ⟨5, off, none⟩) len (2 * cap + 1)) (by simp) fun sz => ?_
    have hm : mapOf Tryz.prog.globals.size sz [⟨b, 0, 0, 0⟩] 5 = some ⟨b, 0, 0, 0⟩ := by rw [gS]; rfl
    have := VRel.sliceE (i := off) (n := len) (c := cap) hm
    simpa using this
end Go.Proofs.YteailohgaoglnaaGreatDoor.ringNil
