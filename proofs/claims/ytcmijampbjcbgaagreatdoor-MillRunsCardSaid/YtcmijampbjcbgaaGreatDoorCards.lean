/-
  DERIVED. GIVEN WITH THE SEED: THE CARDS: each row of YtcmijampbjcbgaaGreatDoorRows.lean that lists a variable, with what it lists TIED to the program's text (the seventh form; the later family's looks); each row that meets fmt, with fmt's text TOLD by the authors' own Lean function (tested against real Go, not proved from fmt's source: count such statements apart). THE CARD IS WHAT COUNTS. Prove the row's statement (the work); the ties are given (YtcmijampbjcbgaaGreatDoorTie.lean); close each card by the builder's one call (the guide's Derived/Test/ToyasCard.lean, 'card_holds'). Laid BY PROGRAM, IN A SANDBOX (cutbox-door.mjs). By AI agents, Wed Nov 11 2026. No macro, syntax, notation, axiom, sorry.
-/
import Derived.Test.YtcmijampbjcbgaaGreatDoorRows
import GoSem.ClaimSeven
namespace Go.Proofs.YtcmijampbjcbgaaGreatDoor
namespace Rows

/-- THE TIED CARD OF 'pasodoblelaw17.MillRuns'. -/
def millRunsCard : Claim7 := { stood := { row := millRunsRow, standIns := [], harness := (true, "460c97481904c91f572ed787a032cc9605c48ecd1f40a319d0f40d3305b4042a"), looks := true }, kinds := [], alts := [], laidByText := true, laidKinds := [.data, .data, .data, .sentinel, .sentinel, .sentinel, .sentinel, .sentinel, .sentinel, .sentinel, .sentinel, .sentinel, .sentinel, .sentinel, .sentinel, .sentinel, .sentinel, .sentinel, .sentinel, .sentinel, .sentinel, .data], laidTests := true, laidLooks := .later }
def MillRunsCardSaid : Prop := Claim7.holds Tryz.pinned (.plain (OpenSpec.ofChange millRunsSpec)) millRunsCard

/-- THE TIED CARD OF 'pasodoblelaw17.MillExact'. -/
def millExactCard : Claim7 := { stood := { row := millExactRow, standIns := [], harness := (true, "460c97481904c91f572ed787a032cc9605c48ecd1f40a319d0f40d3305b4042a"), looks := true }, kinds := [], alts := [], laidByText := true, laidKinds := [.data, .data, .data, .sentinel, .sentinel, .sentinel, .sentinel, .sentinel, .sentinel, .sentinel, .sentinel, .sentinel, .sentinel, .sentinel, .sentinel, .sentinel, .sentinel, .sentinel, .sentinel, .sentinel, .sentinel, .data], laidTests := true, laidLooks := .later }
def MillExactCardSaid : Prop := Claim7.holds Tryz.pinned (.plain (OpenSpec.ofChange millExactSpec)) millExactCard

/-- THE SECOND FORM's CARD OF 'pasodoblelaw17.MillRuns'. -/
def millRunsUptoCard : Claim7 := { stood := { row := millRunsUptoRow, standIns := [], harness := (true, "460c97481904c91f572ed787a032cc9605c48ecd1f40a319d0f40d3305b4042a"), looks := true }, kinds := [], alts := [], laidByText := true, laidKinds := [.data, .data, .data, .sentinel, .sentinel, .sentinel, .sentinel, .sentinel, .sentinel, .sentinel, .sentinel, .sentinel, .sentinel, .sentinel, .sentinel, .sentinel, .sentinel, .sentinel, .sentinel, .sentinel, .sentinel, .data], laidTests := true, laidLooks := .later }
def MillRunsUptoCardSaid : Prop := Claim7.holds Tryz.pinned (.plain (OpenSpec.upto millRunsSpec)) millRunsUptoCard

/-- THE SECOND FORM's CARD OF 'pasodoblelaw17.MillExact'. -/
def millExactUptoCard : Claim7 := { stood := { row := millExactUptoRow, standIns := [], harness := (true, "460c97481904c91f572ed787a032cc9605c48ecd1f40a319d0f40d3305b4042a"), looks := true }, kinds := [], alts := [], laidByText := true, laidKinds := [.data, .data, .data, .sentinel, .sentinel, .sentinel, .sentinel, .sentinel, .sentinel, .sentinel, .sentinel, .sentinel, .sentinel, .sentinel, .sentinel, .sentinel, .sentinel, .sentinel, .sentinel, .sentinel, .sentinel, .data], laidTests := true, laidLooks := .later }
def MillExactUptoCardSaid : Prop := Claim7.holds Tryz.pinned (.plain (OpenSpec.upto millExactSpec)) millExactUptoCard
end Rows
end Go.Proofs.YtcmijampbjcbgaaGreatDoor
