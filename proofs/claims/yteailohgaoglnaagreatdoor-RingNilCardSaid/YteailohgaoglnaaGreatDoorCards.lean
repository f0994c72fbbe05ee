/-
  DERIVED. GIVEN WITH THE SEED: THE CARDS: each row of YteailohgaoglnaaGreatDoorRows.lean that lists a variable, with what it lists TIED to the program's text (the seventh form; the later family's looks); each row that meets fmt, with fmt's text TOLD by the authors' own Lean function (tested against real Go, not proved from fmt's source: count such statements apart). THE CARD IS WHAT COUNTS. Prove the row's statement (the work); the ties are given (YteailohgaoglnaaGreatDoorTie.lean); close each card by the builder's one call (the guide's Derived/Test/ToyasCard.lean, 'card_holds'). Laid BY PROGRAM, IN A SANDBOX (cutbox-door.mjs). By AI agents, Wed Nov 11 2026. No macro, syntax, notation, axiom, sorry.
-/
import Derived.Test.YteailohgaoglnaaGreatDoorRows
import GoSem.ClaimSeven
namespace Go.Proofs.YteailohgaoglnaaGreatDoor
namespace Rows

/-- THE TIED CARD OF 'spyglasslaw25.RingNil'. -/
def ringNilCard : Claim7 := { stood := { row := ringNilRow, standIns := [], harness := (true, "0221d318cf7cb37ea4d7bd9771056b5aec44a40017dbca019c5a2e1221348d42"), looks := true }, kinds := [], alts := [], laidByText := true, laidKinds := [.data, .data], laidTests := true, laidLooks := .later }
def RingNilCardSaid : Prop := Claim7.holds Tryz.pinned (.plain (OpenSpec.ofChange ringNilSpec)) ringNilCard

/-- THE TIED CARD OF 'spyglasslaw25.RingBytes'. -/
def ringBytesCard : Claim7 := { stood := { row := ringBytesRow, standIns := [], harness := (true, "0221d318cf7cb37ea4d7bd9771056b5aec44a40017dbca019c5a2e1221348d42"), looks := true }, kinds := [], alts := [], laidByText := true, laidKinds := [.data, .data], laidTests := true, laidLooks := .later }
def RingBytesCardSaid : Prop := Claim7.holds Tryz.pinned (.plain (OpenSpec.ofChange ringBytesSpec)) ringBytesCard

/-- THE TIED CARD OF 'spyglasslaw19.DiffAbove'. -/
def diffAboveCard : Claim7 := { stood := { row := diffAboveRow, standIns := [], harness := (true, "0221d318cf7cb37ea4d7bd9771056b5aec44a40017dbca019c5a2e1221348d42"), looks := true }, kinds := [], alts := [], laidByText := true, laidKinds := [.data, .data, .data, .data], laidTests := true, laidLooks := .later }
def DiffAboveCardSaid : Prop := Claim7.holds Tryz.pinned (.plain (OpenSpec.ofChange diffAboveSpec)) diffAboveCard

/-- THE TIED CARD OF 'spyglasslaw28.ClientNil'. -/
def clientNilCard : Claim7 := { stood := { row := clientNilRow, standIns := [], harness := (true, "0221d318cf7cb37ea4d7bd9771056b5aec44a40017dbca019c5a2e1221348d42"), looks := true }, kinds := [], alts := [], laidByText := true, laidKinds := [.data, .data, .data], laidTests := true, laidLooks := .later }
def ClientNilCardSaid : Prop := Claim7.holds Tryz.pinned (.plain (OpenSpec.ofChange clientNilSpec)) clientNilCard

/-- THE SECOND FORM's CARD OF 'spyglasslaw25.RingNil'. -/
def ringNilUptoCard : Claim7 := { stood := { row := ringNilUptoRow, standIns := [], harness := (true, "0221d318cf7cb37ea4d7bd9771056b5aec44a40017dbca019c5a2e1221348d42"), looks := true }, kinds := [], alts := [], laidByText := true, laidKinds := [.data, .data], laidTests := true, laidLooks := .later }
def RingNilUptoCardSaid : Prop := Claim7.holds Tryz.pinned (.plain (OpenSpec.upto ringNilSpec)) ringNilUptoCard

/-- THE SECOND FORM's CARD OF 'spyglasslaw25.RingBytes'. -/
def ringBytesUptoCard : Claim7 := { stood := { row := ringBytesUptoRow, standIns := [], harness := (true, "0221d318cf7cb37ea4d7bd9771056b5aec44a40017dbca019c5a2e1221348d42"), looks := true }, kinds := [], alts := [], laidByText := true, laidKinds := [.data, .data], laidTests := true, laidLooks := .later }
def RingBytesUptoCardSaid : Prop := Claim7.holds Tryz.pinned (.plain (OpenSpec.upto ringBytesSpec)) ringBytesUptoCard

/-- THE SECOND FORM's CARD OF 'spyglasslaw19.DiffAbove'. -/
def diffAboveUptoCard : Claim7 := { stood := { row := diffAboveUptoRow, standIns := [], harness := (true, "0221d318cf7cb37ea4d7bd9771056b5aec44a40017dbca019c5a2e1221348d42"), looks := true }, kinds := [], alts := [], laidByText := true, laidKinds := [.data, .data, .data, .data], laidTests := true, laidLooks := .later }
def DiffAboveUptoCardSaid : Prop := Claim7.holds Tryz.pinned (.plain (OpenSpec.upto diffAboveSpec)) diffAboveUptoCard

/-- THE SECOND FORM's CARD OF 'spyglasslaw28.ClientNil'. -/
def clientNilUptoCard : Claim7 := { stood := { row := clientNilUptoRow, standIns := [], harness := (true, "0221d318cf7cb37ea4d7bd9771056b5aec44a40017dbca019c5a2e1221348d42"), looks := true }, kinds := [], alts := [], laidByText := true, laidKinds := [.data, .data, .data], laidTests := true, laidLooks := .later }
def ClientNilUptoCardSaid : Prop := Claim7.holds Tryz.pinned (.plain (OpenSpec.upto clientNilSpec)) clientNilUptoCard
end Rows
end Go.Proofs.YteailohgaoglnaaGreatDoor
