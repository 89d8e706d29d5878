/-
  DERIVED. GIVEN WITH THE SEED: THE CARDS: each row of YtmdcoaljjnbhlaaGreatDoorRows.lean that lists a variable, with what it lists TIED to the program's text (the seventh form; the later family's looks); each row that meets fmt, with fmt's text TOLD by the authors' own Lean function (tested against real Go, not proved from fmt's source: count such statements apart). THE CARD IS WHAT COUNTS. Prove the row's statement (the work); the ties are given (YtmdcoaljjnbhlaaGreatDoorTie.lean); close each card by the builder's one call (the guide's Derived/Test/ToyasCard.lean, 'card_holds'). Laid BY PROGRAM, IN A SANDBOX (cutbox-door.mjs). By AI agents, Wed Nov 11 2026. No macro, syntax, notation, axiom, sorry.
-/
import Derived.Test.YtmdcoaljjnbhlaaGreatDoorRows
import GoSem.ClaimSeven
namespace Go.Proofs.YtmdcoaljjnbhlaaGreatDoor
namespace Rows

/-- THE TIED CARD OF 'pasodoblelaw17.MillNobody'. -/
def millNobodyCard : Claim7 := { stood := { row := millNobodyRow, standIns := [], harness := (true, "39f12f056cf5f3e47def2dc6f6e09873a7199fd76a53e81bbddb6ea269ea7f7a"), looks := true }, kinds := [], alts := [], laidByText := true, laidKinds := [.data, .data, .data, .sentinel, .sentinel, .sentinel, .sentinel, .sentinel, .sentinel, .sentinel, .sentinel, .sentinel, .sentinel, .sentinel, .sentinel, .sentinel, .data], laidTests := true, laidLooks := .later }
def MillNobodyCardSaid : Prop := Claim7.holds Tryz.pinned (.plain (OpenSpec.ofChange millNobodySpec)) millNobodyCard

/-- THE TIED CARD OF 'pasodoblelaw17.MillSame'. -/
def millSameCard : Claim7 := { stood := { row := millSameRow, standIns := [], harness := (true, "39f12f056cf5f3e47def2dc6f6e09873a7199fd76a53e81bbddb6ea269ea7f7a"), looks := true }, kinds := [], alts := [], laidByText := true, laidKinds := [.data, .data, .data, .sentinel, .sentinel, .sentinel, .sentinel, .sentinel, .sentinel, .sentinel, .sentinel, .sentinel, .sentinel, .sentinel, .sentinel, .sentinel, .data], laidTests := true, laidLooks := .later }
def MillSameCardSaid : Prop := Claim7.holds Tryz.pinned (.plain (OpenSpec.ofChange millSameSpec)) millSameCard

/-- THE TIED CARD OF 'pasodoblelaw17.MillRuns'. -/
def millRunsCard : Claim7 := { stood := { row := millRunsRow, standIns := [], harness := (true, "39f12f056cf5f3e47def2dc6f6e09873a7199fd76a53e81bbddb6ea269ea7f7a"), looks := true }, kinds := [], alts := [], laidByText := true, laidKinds := [.data, .data, .data, .sentinel, .sentinel, .sentinel, .sentinel, .sentinel, .sentinel, .sentinel, .sentinel, .sentinel, .sentinel, .sentinel, .sentinel, .sentinel, .sentinel, .sentinel, .sentinel, .sentinel, .sentinel, .data], laidTests := true, laidLooks := .later }
def MillRunsCardSaid : Prop := Claim7.holds Tryz.pinned (.plain (OpenSpec.ofChange millRunsSpec)) millRunsCard

/-- THE TIED CARD OF 'pasodoblelaw17.MillExact'. -/
def millExactCard : Claim7 := { stood := { row := millExactRow, standIns := [], harness := (true, "39f12f056cf5f3e47def2dc6f6e09873a7199fd76a53e81bbddb6ea269ea7f7a"), looks := true }, kinds := [], alts := [], laidByText := true, laidKinds := [.data, .data, .data, .sentinel, .sentinel, .sentinel, .sentinel, .sentinel, .sentinel, .sentinel, .sentinel, .sentinel, .sentinel, .sentinel, .sentinel, .sentinel, .sentinel, .sentinel, .sentinel, .sentinel, .sentinel, .data], laidTests := true, laidLooks := .later }
def MillExactCardSaid : Prop := Claim7.holds Tryz.pinned (.plain (OpenSpec.ofChange millExactSpec)) millExactCard

/-- THE SECOND FORM's CARD OF 'pasodoblelaw17.MillNobody'. -/
def millNobodyUptoCard : Claim7 := { stood := { row := millNobodyUptoRow, standIns := [], harness := (true, "39f12f056cf5f3e47def2dc6f6e09873a7199fd76a53e81bbddb6ea269ea7f7a"), looks := true }, kinds := [], alts := [], laidByText := true, laidKinds := [.data, .data, .data, .sentinel, .sentinel, .sentinel, .sentinel, .sentinel, .sentinel, .sentinel, .sentinel, .sentinel, .sentinel, .sentinel, .sentinel, .sentinel, .data], laidTests := true, laidLooks := .later }
def MillNobodyUptoCardSaid : Prop := Claim7.holds Tryz.pinned (.plain (OpenSpec.upto millNobodySpec)) millNobodyUptoCard

/-- THE SECOND FORM's CARD OF 'pasodoblelaw17.MillSame'. -/
def millSameUptoCard : Claim7 := { stood := { row := millSameUptoRow, standIns := [], harness := (true, "39f12f056cf5f3e47def2dc6f6e09873a7199fd76a53e81bbddb6ea269ea7f7a"), looks := true }, kinds := [], alts := [], laidByText := true, laidKinds := [.data, .data, .data, .sentinel, .sentinel, .sentinel, .sentinel, .sentinel, .sentinel, .sentinel, .sentinel, .sentinel, .sentinel, .sentinel, .sentinel, .sentinel, .data], laidTests := true, laidLooks := .later }
def MillSameUptoCardSaid : Prop := Claim7.holds Tryz.pinned (.plain (OpenSpec.upto millSameSpec)) millSameUptoCard

/-- THE SECOND FORM's CARD OF 'pasodoblelaw17.MillRuns'. -/
def millRunsUptoCard : Claim7 := { stood := { row := millRunsUptoRow, standIns := [], harness := (true, "39f12f056cf5f3e47def2dc6f6e09873a7199fd76a53e81bbddb6ea269ea7f7a"), looks := true }, kinds := [], alts := [], laidByText := true, laidKinds := [.data, .data, .data, .sentinel, .sentinel, .sentinel, .sentinel, .sentinel, .sentinel, .sentinel, .sentinel, .sentinel, .sentinel, .sentinel, .sentinel, .sentinel, .sentinel, .sentinel, .sentinel, .sentinel, .sentinel, .data], laidTests := true, laidLooks := .later }
def MillRunsUptoCardSaid : Prop := Claim7.holds Tryz.pinned (.plain (OpenSpec.upto millRunsSpec)) millRunsUptoCard

/-- THE SECOND FORM's CARD OF 'pasodoblelaw17.MillExact'. -/
def millExactUptoCard : Claim7 := { stood := { row := millExactUptoRow, standIns := [], harness := (true, "39f12f056cf5f3e47def2dc6f6e09873a7199fd76a53e81bbddb6ea269ea7f7a"), looks := true }, kinds := [], alts := [], laidByText := true, laidKinds := [.data, .data, .data, .sentinel, .sentinel, .sentinel, .sentinel, .sentinel, .sentinel, .sentinel, .sentinel, .sentinel, .sentinel, .sentinel, .sentinel, .sentinel, .sentinel, .sentinel, .sentinel, .sentinel, .sentinel, .data], laidTests := true, laidLooks := .later }
def MillExactUptoCardSaid : Prop := Claim7.holds Tryz.pinned (.plain (OpenSpec.upto millExactSpec)) millExactUptoCard
end Rows
end Go.Proofs.YtmdcoaljjnbhlaaGreatDoor
