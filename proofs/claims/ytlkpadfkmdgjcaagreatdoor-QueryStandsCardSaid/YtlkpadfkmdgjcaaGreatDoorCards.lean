/-
  DERIVED. GIVEN WITH THE SEED: THE CARDS: each row of YtlkpadfkmdgjcaaGreatDoorRows.lean that lists a variable, with what it lists TIED to the program's text (the seventh form; the later family's looks); each row that meets fmt, with fmt's text TOLD by the authors' own Lean function (tested against real Go, not proved from fmt's source: count such statements apart). THE CARD IS WHAT COUNTS. Prove the row's statement (the work); the ties are given (YtlkpadfkmdgjcaaGreatDoorTie.lean); close each card by the builder's one call (the guide's Derived/Test/ToyasCard.lean, 'card_holds'). Laid BY PROGRAM, IN A SANDBOX (cutbox-door.mjs). By AI agents, Wed Nov 11 2026. No macro, syntax, notation, axiom, sorry.
-/
import Derived.Test.YtlkpadfkmdgjcaaGreatDoorRows
import GoSem.ClaimSeven
namespace Go.Proofs.YtlkpadfkmdgjcaaGreatDoor
namespace Rows

/-- THE TIED CARD OF 'pasodoblelaw09.StoreMatches'. -/
def storeMatchesCard : Claim7 := { stood := { row := storeMatchesRow, standIns := [], harness := (true, "68b16e1fe8f73ac8b2c8ac53ac3d0798a9a31e1dc6786c50004935c23e801c10"), looks := true }, kinds := [], alts := [], laidByText := true, laidKinds := [.data, .data, .data, .sentinel, .sentinel, .sentinel, .sentinel, .sentinel, .sentinel, .sentinel, .sentinel], laidTests := true, laidLooks := .later }
def StoreMatchesCardSaid : Prop := Claim7.holds Tryz.pinned (.plain (OpenSpec.ofChange storeMatchesSpec)) storeMatchesCard

/-- THE TIED CARD OF 'pasodoblelaw09.StoreMoves'. -/
def storeMovesCard : Claim7 := { stood := { row := storeMovesRow, standIns := [], harness := (true, "68b16e1fe8f73ac8b2c8ac53ac3d0798a9a31e1dc6786c50004935c23e801c10"), looks := true }, kinds := [], alts := [], laidByText := true, laidKinds := [.data, .data, .data, .sentinel, .sentinel, .sentinel, .sentinel, .sentinel, .sentinel, .sentinel, .sentinel], laidTests := true, laidLooks := .later }
def StoreMovesCardSaid : Prop := Claim7.holds Tryz.pinned (.plain (OpenSpec.ofChange storeMovesSpec)) storeMovesCard

/-- THE TIED CARD OF 'pasodoblelaw09.StoreFull'. -/
def storeFullCard : Claim7 := { stood := { row := storeFullRow, standIns := [], harness := (true, "68b16e1fe8f73ac8b2c8ac53ac3d0798a9a31e1dc6786c50004935c23e801c10"), looks := true }, kinds := [], alts := [], laidByText := true, laidKinds := [.data, .data, .data, .sentinel, .sentinel, .sentinel, .sentinel, .sentinel, .sentinel, .sentinel, .sentinel], laidTests := true, laidLooks := .later }
def StoreFullCardSaid : Prop := Claim7.holds Tryz.pinned (.plain (OpenSpec.ofChange storeFullSpec)) storeFullCard

/-- THE TIED CARD OF 'pasodoblelaw09.StoreApart'. -/
def storeApartCard : Claim7 := { stood := { row := storeApartRow, standIns := [], harness := (true, "68b16e1fe8f73ac8b2c8ac53ac3d0798a9a31e1dc6786c50004935c23e801c10"), looks := true }, kinds := [], alts := [], laidByText := true, laidKinds := [.data, .data, .data, .sentinel, .sentinel, .sentinel, .sentinel, .sentinel, .sentinel, .sentinel, .sentinel], laidTests := true, laidLooks := .later }
def StoreApartCardSaid : Prop := Claim7.holds Tryz.pinned (.plain (OpenSpec.ofChange storeApartSpec)) storeApartCard

/-- THE TIED CARD OF 'pasodoblelaw09.StoreExact'. -/
def storeExactCard : Claim7 := { stood := { row := storeExactRow, standIns := [], harness := (true, "68b16e1fe8f73ac8b2c8ac53ac3d0798a9a31e1dc6786c50004935c23e801c10"), looks := true }, kinds := [], alts := [], laidByText := true, laidKinds := [.data, .data, .data, .sentinel, .sentinel, .sentinel, .sentinel, .sentinel, .sentinel, .sentinel, .sentinel, .sentinel, .sentinel, .sentinel, .sentinel, .sentinel, .sentinel, .sentinel, .sentinel, .sentinel, .sentinel], laidTests := true, laidLooks := .later }
def StoreExactCardSaid : Prop := Claim7.holds Tryz.pinned (.plain (OpenSpec.ofChange storeExactSpec)) storeExactCard

/-- THE TIED CARD OF 'pasodoblelaw11.QueryNarrows'. -/
def queryNarrowsCard : Claim7 := { stood := { row := queryNarrowsRow, standIns := [], harness := (true, "68b16e1fe8f73ac8b2c8ac53ac3d0798a9a31e1dc6786c50004935c23e801c10"), looks := true }, kinds := [], alts := [], laidByText := true, laidKinds := [.data, .data, .data, .sentinel, .sentinel, .sentinel, .sentinel, .sentinel, .sentinel, .sentinel, .sentinel, .sentinel, .sentinel, .sentinel, .sentinel, .sentinel, .sentinel, .sentinel, .sentinel, .sentinel, .sentinel], laidTests := true, laidLooks := .later }
def QueryNarrowsCardSaid : Prop := Claim7.holds Tryz.pinned (.plain (OpenSpec.ofChange queryNarrowsSpec)) queryNarrowsCard

/-- THE TIED CARD OF 'pasodoblelaw11.QueryRuns'. -/
def queryRunsCard : Claim7 := { stood := { row := queryRunsRow, standIns := [], harness := (true, "68b16e1fe8f73ac8b2c8ac53ac3d0798a9a31e1dc6786c50004935c23e801c10"), looks := true }, kinds := [], alts := [], laidByText := true, laidKinds := [.data, .data, .data, .sentinel, .sentinel, .sentinel, .sentinel, .sentinel, .sentinel, .sentinel, .sentinel, .sentinel, .sentinel, .sentinel, .sentinel, .sentinel, .sentinel, .sentinel, .sentinel, .sentinel, .sentinel], laidTests := true, laidLooks := .later }
def QueryRunsCardSaid : Prop := Claim7.holds Tryz.pinned (.plain (OpenSpec.ofChange queryRunsSpec)) queryRunsCard

/-- THE TIED CARD OF 'pasodoblelaw11.QueryStands'. -/
def queryStandsCard : Claim7 := { stood := { row := queryStandsRow, standIns := [], harness := (true, "68b16e1fe8f73ac8b2c8ac53ac3d0798a9a31e1dc6786c50004935c23e801c10"), looks := true }, kinds := [], alts := [], laidByText := true, laidKinds := [.data, .data, .data, .sentinel, .sentinel, .sentinel, .sentinel, .sentinel, .sentinel, .sentinel, .sentinel, .sentinel, .sentinel, .sentinel, .sentinel, .sentinel, .sentinel, .sentinel, .sentinel, .sentinel, .sentinel], laidTests := true, laidLooks := .later }
def QueryStandsCardSaid : Prop := Claim7.holds Tryz.pinned (.plain (OpenSpec.ofChange queryStandsSpec)) queryStandsCard

/-- THE SECOND FORM's CARD OF 'pasodoblelaw09.StoreMatches'. -/
def storeMatchesUptoCard : Claim7 := { stood := { row := storeMatchesUptoRow, standIns := [], harness := (true, "68b16e1fe8f73ac8b2c8ac53ac3d0798a9a31e1dc6786c50004935c23e801c10"), looks := true }, kinds := [], alts := [], laidByText := true, laidKinds := [.data, .data, .data, .sentinel, .sentinel, .sentinel, .sentinel, .sentinel, .sentinel, .sentinel, .sentinel], laidTests := true, laidLooks := .later }
def StoreMatchesUptoCardSaid : Prop := Claim7.holds Tryz.pinned (.plain (OpenSpec.upto storeMatchesSpec)) storeMatchesUptoCard

/-- THE SECOND FORM's CARD OF 'pasodoblelaw09.StoreMoves'. -/
def storeMovesUptoCard : Claim7 := { stood := { row := storeMovesUptoRow, standIns := [], harness := (true, "68b16e1fe8f73ac8b2c8ac53ac3d0798a9a31e1dc6786c50004935c23e801c10"), looks := true }, kinds := [], alts := [], laidByText := true, laidKinds := [.data, .data, .data, .sentinel, .sentinel, .sentinel, .sentinel, .sentinel, .sentinel, .sentinel, .sentinel], laidTests := true, laidLooks := .later }
def StoreMovesUptoCardSaid : Prop := Claim7.holds Tryz.pinned (.plain (OpenSpec.upto storeMovesSpec)) storeMovesUptoCard

/-- THE SECOND FORM's CARD OF 'pasodoblelaw09.StoreFull'. -/
def storeFullUptoCard : Claim7 := { stood := { row := storeFullUptoRow, standIns := [], harness := (true, "68b16e1fe8f73ac8b2c8ac53ac3d0798a9a31e1dc6786c50004935c23e801c10"), looks := true }, kinds := [], alts := [], laidByText := true, laidKinds := [.data, .data, .data, .sentinel, .sentinel, .sentinel, .sentinel, .sentinel, .sentinel, .sentinel, .sentinel], laidTests := true, laidLooks := .later }
def StoreFullUptoCardSaid : Prop := Claim7.holds Tryz.pinned (.plain (OpenSpec.upto storeFullSpec)) storeFullUptoCard

/-- THE SECOND FORM's CARD OF 'pasodoblelaw09.StoreApart'. -/
def storeApartUptoCard : Claim7 := { stood := { row := storeApartUptoRow, standIns := [], harness := (true, "68b16e1fe8f73ac8b2c8ac53ac3d0798a9a31e1dc6786c50004935c23e801c10"), looks := true }, kinds := [], alts := [], laidByText := true, laidKinds := [.data, .data, .data, .sentinel, .sentinel, .sentinel, .sentinel, .sentinel, .sentinel, .sentinel, .sentinel], laidTests := true, laidLooks := .later }
def StoreApartUptoCardSaid : Prop := Claim7.holds Tryz.pinned (.plain (OpenSpec.upto storeApartSpec)) storeApartUptoCard

/-- THE SECOND FORM's CARD OF 'pasodoblelaw09.StoreExact'. -/
def storeExactUptoCard : Claim7 := { stood := { row := storeExactUptoRow, standIns := [], harness := (true, "68b16e1fe8f73ac8b2c8ac53ac3d0798a9a31e1dc6786c50004935c23e801c10"), looks := true }, kinds := [], alts := [], laidByText := true, laidKinds := [.data, .data, .data, .sentinel, .sentinel, .sentinel, .sentinel, .sentinel, .sentinel, .sentinel, .sentinel, .sentinel, .sentinel, .sentinel, .sentinel, .sentinel, .sentinel, .sentinel, .sentinel, .sentinel, .sentinel], laidTests := true, laidLooks := .later }
def StoreExactUptoCardSaid : Prop := Claim7.holds Tryz.pinned (.plain (OpenSpec.upto storeExactSpec)) storeExactUptoCard

/-- THE SECOND FORM's CARD OF 'pasodoblelaw11.QueryNarrows'. -/
def queryNarrowsUptoCard : Claim7 := { stood := { row := queryNarrowsUptoRow, standIns := [], harness := (true, "68b16e1fe8f73ac8b2c8ac53ac3d0798a9a31e1dc6786c50004935c23e801c10"), looks := true }, kinds := [], alts := [], laidByText := true, laidKinds := [.data, .data, .data, .sentinel, .sentinel, .sentinel, .sentinel, .sentinel, .sentinel, .sentinel, .sentinel, .sentinel, .sentinel, .sentinel, .sentinel, .sentinel, .sentinel, .sentinel, .sentinel, .sentinel, .sentinel], laidTests := true, laidLooks := .later }
def QueryNarrowsUptoCardSaid : Prop := Claim7.holds Tryz.pinned (.plain (OpenSpec.upto queryNarrowsSpec)) queryNarrowsUptoCard

/-- THE SECOND FORM's CARD OF 'pasodoblelaw11.QueryRuns'. -/
def queryRunsUptoCard : Claim7 := { stood := { row := queryRunsUptoRow, standIns := [], harness := (true, "68b16e1fe8f73ac8b2c8ac53ac3d0798a9a31e1dc6786c50004935c23e801c10"), looks := true }, kinds := [], alts := [], laidByText := true, laidKinds := [.data, .data, .data, .sentinel, .sentinel, .sentinel, .sentinel, .sentinel, .sentinel, .sentinel, .sentinel, .sentinel, .sentinel, .sentinel, .sentinel, .sentinel, .sentinel, .sentinel, .sentinel, .sentinel, .sentinel], laidTests := true, laidLooks := .later }
def QueryRunsUptoCardSaid : Prop := Claim7.holds Tryz.pinned (.plain (OpenSpec.upto queryRunsSpec)) queryRunsUptoCard

/-- THE SECOND FORM's CARD OF 'pasodoblelaw11.QueryStands'. -/
def queryStandsUptoCard : Claim7 := { stood := { row := queryStandsUptoRow, standIns := [], harness := (true, "68b16e1fe8f73ac8b2c8ac53ac3d0798a9a31e1dc6786c50004935c23e801c10"), looks := true }, kinds := [], alts := [], laidByText := true, laidKinds := [.data, .data, .data, .sentinel, .sentinel, .sentinel, .sentinel, .sentinel, .sentinel, .sentinel, .sentinel, .sentinel, .sentinel, .sentinel, .sentinel, .sentinel, .sentinel, .sentinel, .sentinel, .sentinel, .sentinel], laidTests := true, laidLooks := .later }
def QueryStandsUptoCardSaid : Prop := Claim7.holds Tryz.pinned (.plain (OpenSpec.upto queryStandsSpec)) queryStandsUptoCard
end Rows
end Go.Proofs.YtlkpadfkmdgjcaaGreatDoor
