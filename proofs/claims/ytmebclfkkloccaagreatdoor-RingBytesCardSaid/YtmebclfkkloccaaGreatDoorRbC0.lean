/- The program's form is one that the evaluator follows; the ring's examples, run by the kernel. -/
import Derived.Test.YtmebclfkkloccaaGreatDoorRb5
import Derived.Test.YtmebclfkkloccaaGreatDoorCards
namespace Go.Proofs.YtmebclfkkloccaaGreatDoor
set_option linter.unusedSimpArgs false
set_option linter.unusedVariables false
set_option linter.unusedSectionVars false
set_option linter.unnecessarySimpa false
open Go.Shade
set_option maxRecDepth 100000
theorem pok : ProgOK Tryz.prog := progOK_of (by kernel_rfl)
theorem gS : Tryz.prog.globals.size = 4 := by kernel_rfl
theorem ringRan : ovRing.Ran (P := Tryz.prog) 131072 := by
  refine ⟨fun b t h => ?_, by kernel_rfl⟩
  rw [gS]
  simp [ovRing] at h
  omega
end Go.Proofs.YtmebclfkkloccaaGreatDoor
