import Derived.Test.YteailohgaoglnaaGreatDoorShadeRingB
namespace Go.Proofs.YteailohgaoglnaaGreatDoor.ringNil
open Go.ChangeShapes Go.WideShapes Go.ChangeAt Go.RowKit Go.Shade
set_option maxRecDepth 100000

def put (l : List Value) : Obj → Obj
  | .cells _ t frozen => .cells l.toArray t frozen
  | o => o
noncomputable def laidWorld (os : Os) : World :=
  { World.holding Tryz.prog os ⟨#[], #[], []⟩ with heap := ((World.holding Tryz.prog os ⟨#[], #[], []⟩).heap.modify 0 (put cellsNone)).modify 1 (put cellsWide) }
theorem laid_met (os : Os) : laidMet Tryz.prog Rows.ringNilRow.laid ((laidWorld os).forCall (fun _ _ => 0) ⟨#[], #[.int .u64 0, .slice none 0 0], []⟩).memory :=
  laidMet_of_run' 8 (by kernel_rfl) (by kernel_rfl)
theorem reads (os : Os) {H : Type} (enc : TypeId × Value → H) : ∃ places, DataW.whole enc Tryz.prog ((laidWorld os).forCall (fun _ _ => 0) ⟨#[], #[.int .u64 0, .slice none 0 0], []⟩).memory Tryz.f3.params.toList Rows.ringNilSpec.vars false #[Value.int .u64 0, .slice none 0 0].toList 8 = some ([.lit (.int .u64 0), .nil], [], places) :=
  ⟨[], by kernel_rfl⟩
end Go.Proofs.YteailohgaoglnaaGreatDoor.ringNil
