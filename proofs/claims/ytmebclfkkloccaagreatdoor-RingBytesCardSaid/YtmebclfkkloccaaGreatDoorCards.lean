/-
  DERIVED. GIVEN WITH THE SEED: THE CARDS: each row of YtmebclfkkloccaaGreatDoorRows.lean that lists a variable, with what it lists TIED to the program's text (the seventh form; the later family's looks); each row that meets fmt, with fmt's text TOLD by the authors' own Lean function (tested against real Go, not proved from fmt's source: count such statements apart). THE CARD IS WHAT COUNTS. Prove the row's statement (the work); the ties are given (YtmebclfkkloccaaGreatDoorTie.lean); close each card by the builder's one call (the guide's Derived/Test/ToyasCard.lean, 'card_holds'). Laid BY PROGRAM, IN A SANDBOX (cutbox-door.mjs). By AI agents, Wed Nov 11 2026. No macro, syntax, notation, axiom, sorry.
-/
import Derived.Test.YtmebclfkkloccaaGreatDoorRows
import GoSem.ClaimSeven
namespace Go.Proofs.YtmebclfkkloccaaGreatDoor
namespace Rows

/-- THE TIED CARD OF 'spyglasslaw25.RingPlays'. -/
def ringPlaysCard : Claim7 := { stood := { row := ringPlaysRow, standIns := [], harness := (true, "2dc096bd8bbdc4bd59e5154e3a4a9c6364f1cf1a827ebab749cde1afe16b3c73"), looks := true }, kinds := [], alts := [], laidByText := true, laidKinds := [.data, .data], laidTests := true, laidLooks := .later }
def RingPlaysCardSaid : Prop := Claim7.holds Tryz.pinned (.plain (OpenSpec.ofChange ringPlaysSpec)) ringPlaysCard

/-- THE TIED CARD OF 'spyglasslaw25.RingBytes'. -/
def ringBytesCard : Claim7 := { stood := { row := ringBytesRow, standIns := [], harness := (true, "2dc096bd8bbdc4bd59e5154e3a4a9c6364f1cf1a827ebab749cde1afe16b3c73"), looks := true }, kinds := [], alts := [], laidByText := true, laidKinds := [.data, .data], laidTests := true, laidLooks := .later }
def RingBytesCardSaid : Prop := Claim7.holds Tryz.pinned (.plain (OpenSpec.ofChange ringBytesSpec)) ringBytesCard

/-- THE TIED CARD OF 'spyglasslaw19.DiffAbove'. -/
def diffAboveCard : Claim7 := { stood := { row := diffAboveRow, standIns := [], harness := (true, "2dc096bd8bbdc4bd59e5154e3a4a9c6364f1cf1a827ebab749cde1afe16b3c73"), looks := true }, kinds := [], alts := [], laidByText := true, laidKinds := [.data, .data, .data, .data], laidTests := true, laidLooks := .later }
def DiffAboveCardSaid : Prop := Claim7.holds Tryz.pinned (.plain (OpenSpec.ofChange diffAboveSpec)) diffAboveCard

/-- THE TIED CARD OF 'spyglasslaw25.RingAgrees'. -/
def ringAgreesCard : Claim7 := { stood := { row := ringAgreesRow, standIns := [], harness := (true, "2dc096bd8bbdc4bd59e5154e3a4a9c6364f1cf1a827ebab749cde1afe16b3c73"), looks := true }, kinds := [], alts := [], laidByText := true, laidKinds := [.data, .data], laidTests := true, laidLooks := .later }
def RingAgreesCardSaid : Prop := Claim7.holds Tryz.pinned (.plain (OpenSpec.ofChange ringAgreesSpec)) ringAgreesCard

/-- THE SECOND FORM's CARD OF 'spyglasslaw25.RingPlays'. -/
def ringPlaysUptoCard : Claim7 := { stood := { row := ringPlaysUptoRow, standIns := [], harness := (true, "2dc096bd8bbdc4bd59e5154e3a4a9c6364f1cf1a827ebab749cde1afe16b3c73"), looks := true }, kinds := [], alts := [], laidByText := true, laidKinds := [.data, .data], laidTests := true, laidLooks := .later }
def RingPlaysUptoCardSaid : Prop := Claim7.holds Tryz.pinned (.plain (OpenSpec.upto ringPlaysSpec)) ringPlaysUptoCard

/-- THE SECOND FORM's CARD OF 'spyglasslaw25.RingBytes'. -/
def ringBytesUptoCard : Claim7 := { stood := { row := ringBytesUptoRow, standIns := [], harness := (true, "2dc096bd8bbdc4bd59e5154e3a4a9c6364f1cf1a827ebab749cde1afe16b3c73"), looks := true }, kinds := [], alts := [], laidByText := true, laidKinds := [.data, .data], laidTests := true, laidLooks := .later }
def RingBytesUptoCardSaid : Prop := Claim7.holds Tryz.pinned (.plain (OpenSpec.upto ringBytesSpec)) ringBytesUptoCard

/-- THE SECOND FORM's CARD OF 'spyglasslaw19.DiffAbove'. -/
def diffAboveUptoCard : Claim7 := { stood := { row := diffAboveUptoRow, standIns := [], harness := (true, "2dc096bd8bbdc4bd59e5154e3a4a9c6364f1cf1a827ebab749cde1afe16b3c73"), looks := true }, kinds := [], alts := [], laidByText := true, laidKinds := [.data, .data, .data, .data], laidTests := true, laidLooks := .later }
def DiffAboveUptoCardSaid : Prop := Claim7.holds Tryz.pinned (.plain (OpenSpec.upto diffAboveSpec)) diffAboveUptoCard

/-- THE SECOND FORM's CARD OF 'spyglasslaw25.RingAgrees'. -/
def ringAgreesUptoCard : Claim7 := { stood := { row := ringAgreesUptoRow, standIns := [], harness := (true, "2dc096bd8bbdc4bd59e5154e3a4a9c6364f1cf1a827ebab749cde1afe16b3c73"), looks := true }, kinds := [], alts := [], laidByText := true, laidKinds := [.data, .data], laidTests := true, laidLooks := .later }
def RingAgreesUptoCardSaid : Prop := Claim7.holds Tryz.pinned (.plain (OpenSpec.upto ringAgreesSpec)) ringAgreesUptoCard
end Rows
end Go.Proofs.YtmebclfkkloccaaGreatDoor
