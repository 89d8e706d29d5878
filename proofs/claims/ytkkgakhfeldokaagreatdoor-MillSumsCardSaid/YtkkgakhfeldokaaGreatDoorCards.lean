/-
  DERIVED. GIVEN WITH THE SEED: THE CARDS: each row of YtkkgakhfeldokaaGreatDoorRows.lean that lists a variable, with what it lists TIED to the program's text (the seventh form; the later family's looks); each row that meets fmt, with fmt's text TOLD by the authors' own Lean function (tested against real Go, not proved from fmt's source: count such statements apart). THE CARD IS WHAT COUNTS. Prove the row's statement (the work); the ties are given (YtkkgakhfeldokaaGreatDoorTie.lean); close each card by the builder's one call (the guide's Derived/Test/ToyasCard.lean, 'card_holds'). Laid BY PROGRAM, IN A SANDBOX (cutbox-door.mjs). By AI agents, Wed Nov 11 2026. No macro, syntax, notation, axiom, sorry.
-/
import Derived.Test.YtkkgakhfeldokaaGreatDoorRows
import GoSem.ClaimSeven
namespace Go.Proofs.YtkkgakhfeldokaaGreatDoor
namespace Rows

/-- THE TIED CARD OF 'pasodoblelaw17.MillSums'. -/
def millSumsCard : Claim7 := { stood := { row := millSumsRow, standIns := [], harness := (true, "f51a38cb0569cc0dca34af9b441d8a222b9fea5ab720dd605c7e27d11e59e962"), looks := true }, kinds := [], alts := [], laidByText := true, laidKinds := [.sentinel, .sentinel, .sentinel, .sentinel, .sentinel, .sentinel, .sentinel, .sentinel, .sentinel, .sentinel, .data], laidTests := true, laidLooks := .later }
def MillSumsCardSaid : Prop := Claim7.holds Tryz.pinned (.plain (OpenSpec.ofChange millSumsSpec)) millSumsCard

/-- THE TIED CARD OF 'pasodoblelaw19.GameFewer'. -/
def gameFewerCard : Claim7 := { stood := { row := gameFewerRow, standIns := [], harness := (true, "f51a38cb0569cc0dca34af9b441d8a222b9fea5ab720dd605c7e27d11e59e962"), looks := true }, kinds := [], alts := [], laidByText := true, laidKinds := [.data, .data, .data, .sentinel, .sentinel, .sentinel, .sentinel, .sentinel, .sentinel, .sentinel, .sentinel, .sentinel, .sentinel, .sentinel, .sentinel, .sentinel, .sentinel, .sentinel, .sentinel, .sentinel, .sentinel, .data], laidTests := true, laidLooks := .later }
def GameFewerCardSaid : Prop := Claim7.holds Tryz.pinned (.plain (OpenSpec.ofChange gameFewerSpec)) gameFewerCard

/-- THE SECOND FORM's CARD OF 'pasodoblelaw17.MillSums'. -/
def millSumsUptoCard : Claim7 := { stood := { row := millSumsUptoRow, standIns := [], harness := (true, "f51a38cb0569cc0dca34af9b441d8a222b9fea5ab720dd605c7e27d11e59e962"), looks := true }, kinds := [], alts := [], laidByText := true, laidKinds := [.sentinel, .sentinel, .sentinel, .sentinel, .sentinel, .sentinel, .sentinel, .sentinel, .sentinel, .sentinel, .data], laidTests := true, laidLooks := .later }
def MillSumsUptoCardSaid : Prop := Claim7.holds Tryz.pinned (.plain (OpenSpec.upto millSumsSpec)) millSumsUptoCard

/-- THE SECOND FORM's CARD OF 'pasodoblelaw19.GameFewer'. -/
def gameFewerUptoCard : Claim7 := { stood := { row := gameFewerUptoRow, standIns := [], harness := (true, "f51a38cb0569cc0dca34af9b441d8a222b9fea5ab720dd605c7e27d11e59e962"), looks := true }, kinds := [], alts := [], laidByText := true, laidKinds := [.data, .data, .data, .sentinel, .sentinel, .sentinel, .sentinel, .sentinel, .sentinel, .sentinel, .sentinel, .sentinel, .sentinel, .sentinel, .sentinel, .sentinel, .sentinel, .sentinel, .sentinel, .sentinel, .sentinel, .data], laidTests := true, laidLooks := .later }
def GameFewerUptoCardSaid : Prop := Claim7.holds Tryz.pinned (.plain (OpenSpec.upto gameFewerSpec)) gameFewerUptoCard
end Rows
end Go.Proofs.YtkkgakhfeldokaaGreatDoor
