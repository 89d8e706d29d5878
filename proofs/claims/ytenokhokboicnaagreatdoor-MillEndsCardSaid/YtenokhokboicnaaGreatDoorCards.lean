/-
  DERIVED. GIVEN WITH THE SEED: THE CARDS: each row of YtenokhokboicnaaGreatDoorRows.lean that lists a variable, with what it lists TIED to the program's text (the seventh form; the later family's looks); each row that meets fmt, with fmt's text TOLD by the authors' own Lean function (tested against real Go, not proved from fmt's source: count such statements apart). THE CARD IS WHAT COUNTS. Prove the row's statement (the work); the ties are given (YtenokhokboicnaaGreatDoorTie.lean); close each card by the builder's one call (the guide's Derived/Test/ToyasCard.lean, 'card_holds'). Laid BY PROGRAM, IN A SANDBOX (cutbox-door.mjs). By AI agents, Wed Nov 11 2026. No macro, syntax, notation, axiom, sorry.
-/
import Derived.Test.YtenokhokboicnaaGreatDoorRows
import GoSem.ClaimSeven
namespace Go.Proofs.YtenokhokboicnaaGreatDoor
namespace Rows

/-- THE TIED CARD OF 'pasodoblelaw19.GameFewer'. -/
def gameFewerCard : Claim7 := { stood := { row := gameFewerRow, standIns := [], harness := (true, "f66b0d3814bec594fef03c5c78763a80761a8a03d36cb31b13087cbc22ab9597"), looks := true }, kinds := [], alts := [], laidByText := true, laidKinds := [.data, .data, .data, .sentinel, .sentinel, .sentinel, .sentinel, .sentinel, .sentinel, .sentinel, .sentinel, .sentinel, .sentinel, .sentinel, .sentinel, .sentinel, .sentinel, .sentinel, .sentinel, .sentinel, .sentinel, .data], laidTests := true, laidLooks := .later }
def GameFewerCardSaid : Prop := Claim7.holds Tryz.pinned (.plain (OpenSpec.ofChange gameFewerSpec)) gameFewerCard

/-- THE TIED CARD OF 'pasodoblelaw17.MillEnds'. -/
def millEndsCard : Claim7 := { stood := { row := millEndsRow, standIns := [], harness := (true, "f66b0d3814bec594fef03c5c78763a80761a8a03d36cb31b13087cbc22ab9597"), looks := true }, kinds := [], alts := [], laidByText := true, laidKinds := [.data, .data, .data, .sentinel, .sentinel, .sentinel, .sentinel, .sentinel, .sentinel, .sentinel, .sentinel, .sentinel, .sentinel, .sentinel, .sentinel, .sentinel, .data], laidTests := true, laidLooks := .later }
def MillEndsCardSaid : Prop := Claim7.holds Tryz.pinned (.plain (OpenSpec.ofChange millEndsSpec)) millEndsCard

/-- THE SECOND FORM's CARD OF 'pasodoblelaw19.GameFewer'. -/
def gameFewerUptoCard : Claim7 := { stood := { row := gameFewerUptoRow, standIns := [], harness := (true, "f66b0d3814bec594fef03c5c78763a80761a8a03d36cb31b13087cbc22ab9597"), looks := true }, kinds := [], alts := [], laidByText := true, laidKinds := [.data, .data, .data, .sentinel, .sentinel, .sentinel, .sentinel, .sentinel, .sentinel, .sentinel, .sentinel, .sentinel, .sentinel, .sentinel, .sentinel, .sentinel, .sentinel, .sentinel, .sentinel, .sentinel, .sentinel, .data], laidTests := true, laidLooks := .later }
def GameFewerUptoCardSaid : Prop := Claim7.holds Tryz.pinned (.plain (OpenSpec.upto gameFewerSpec)) gameFewerUptoCard

/-- THE SECOND FORM's CARD OF 'pasodoblelaw17.MillEnds'. -/
def millEndsUptoCard : Claim7 := { stood := { row := millEndsUptoRow, standIns := [], harness := (true, "f66b0d3814bec594fef03c5c78763a80761a8a03d36cb31b13087cbc22ab9597"), looks := true }, kinds := [], alts := [], laidByText := true, laidKinds := [.data, .data, .data, .sentinel, .sentinel, .sentinel, .sentinel, .sentinel, .sentinel, .sentinel, .sentinel, .sentinel, .sentinel, .sentinel, .sentinel, .sentinel, .data], laidTests := true, laidLooks := .later }
def MillEndsUptoCardSaid : Prop := Claim7.holds Tryz.pinned (.plain (OpenSpec.upto millEndsSpec)) millEndsUptoCard
end Rows
end Go.Proofs.YtenokhokboicnaaGreatDoor
