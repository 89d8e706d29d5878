/-
  DERIVED. GIVEN WITH THE SEED: THE CARDS: each row of YtmidldeaapdjoaaGreatDoorRows.lean that lists a variable, with what it lists TIED to the program's text (the seventh form; the later family's looks); each row that meets fmt, with fmt's text TOLD by the authors' own Lean function (tested against real Go, not proved from fmt's source: count such statements apart). THE CARD IS WHAT COUNTS. Prove the row's statement (the work); the ties are given (YtmidldeaapdjoaaGreatDoorTie.lean); close each card by the builder's one call (the guide's Derived/Test/ToyasCard.lean, 'card_holds'). Laid BY PROGRAM, IN A SANDBOX (cutbox-door.mjs). By AI agents, Wed Nov 11 2026. No macro, syntax, notation, axiom, sorry.
-/
import Derived.Test.YtmidldeaapdjoaaGreatDoorRows
import GoSem.ClaimSeven
namespace Go.Proofs.YtmidldeaapdjoaaGreatDoor
namespace Rows

/-- THE TIED CARD OF 'pasodoblelaw09.StoreApart'. -/
def storeApartCard : Claim7 := { stood := { row := storeApartRow, standIns := [], harness := (true, "12ceb3cfa6ce9ddf97508104734580e6e7135de21b6ad3d6afdd0337b9614ad8"), looks := true }, kinds := [], alts := [], laidByText := true, laidKinds := [.data, .data, .data, .sentinel, .sentinel, .sentinel, .sentinel, .sentinel, .sentinel, .sentinel, .sentinel], laidTests := true, laidLooks := .later }
def StoreApartCardSaid : Prop := Claim7.holds Tryz.pinned (.plain (OpenSpec.ofChange storeApartSpec)) storeApartCard

/-- THE TIED CARD OF 'pasodoblelaw15.OrdersFew'. -/
def ordersFewCard : Claim7 := { stood := { row := ordersFewRow, standIns := [], harness := (true, "12ceb3cfa6ce9ddf97508104734580e6e7135de21b6ad3d6afdd0337b9614ad8"), looks := true }, kinds := [], alts := [], laidByText := true, laidKinds := [.data, .data, .data, .sentinel, .sentinel, .sentinel, .sentinel, .sentinel, .sentinel, .sentinel, .sentinel, .sentinel], laidTests := true, laidLooks := .later }
def OrdersFewCardSaid : Prop := Claim7.holds Tryz.pinned (.plain (OpenSpec.ofChange ordersFewSpec)) ordersFewCard

/-- THE TIED CARD OF 'pasodoblelaw15.OrdersWait'. -/
def ordersWaitCard : Claim7 := { stood := { row := ordersWaitRow, standIns := [], harness := (true, "12ceb3cfa6ce9ddf97508104734580e6e7135de21b6ad3d6afdd0337b9614ad8"), looks := true }, kinds := [], alts := [], laidByText := true, laidKinds := [.data, .data, .data, .sentinel, .sentinel, .sentinel, .sentinel, .sentinel, .sentinel, .sentinel, .sentinel, .sentinel], laidTests := true, laidLooks := .later }
def OrdersWaitCardSaid : Prop := Claim7.holds Tryz.pinned (.plain (OpenSpec.ofChange ordersWaitSpec)) ordersWaitCard

/-- THE TIED CARD OF 'pasodoblelaw15.OrdersTurns'. -/
def ordersTurnsCard : Claim7 := { stood := { row := ordersTurnsRow, standIns := [], harness := (true, "12ceb3cfa6ce9ddf97508104734580e6e7135de21b6ad3d6afdd0337b9614ad8"), looks := true }, kinds := [], alts := [], laidByText := true, laidKinds := [.data, .data, .data, .sentinel, .sentinel, .sentinel, .sentinel, .sentinel, .sentinel, .sentinel, .sentinel, .sentinel], laidTests := true, laidLooks := .later }
def OrdersTurnsCardSaid : Prop := Claim7.holds Tryz.pinned (.plain (OpenSpec.ofChange ordersTurnsSpec)) ordersTurnsCard

/-- THE SECOND FORM's CARD OF 'pasodoblelaw09.StoreApart'. -/
def storeApartUptoCard : Claim7 := { stood := { row := storeApartUptoRow, standIns := [], harness := (true, "12ceb3cfa6ce9ddf97508104734580e6e7135de21b6ad3d6afdd0337b9614ad8"), looks := true }, kinds := [], alts := [], laidByText := true, laidKinds := [.data, .data, .data, .sentinel, .sentinel, .sentinel, .sentinel, .sentinel, .sentinel, .sentinel, .sentinel], laidTests := true, laidLooks := .later }
def StoreApartUptoCardSaid : Prop := Claim7.holds Tryz.pinned (.plain (OpenSpec.upto storeApartSpec)) storeApartUptoCard

/-- THE SECOND FORM's CARD OF 'pasodoblelaw15.OrdersFew'. -/
def ordersFewUptoCard : Claim7 := { stood := { row := ordersFewUptoRow, standIns := [], harness := (true, "12ceb3cfa6ce9ddf97508104734580e6e7135de21b6ad3d6afdd0337b9614ad8"), looks := true }, kinds := [], alts := [], laidByText := true, laidKinds := [.data, .data, .data, .sentinel, .sentinel, .sentinel, .sentinel, .sentinel, .sentinel, .sentinel, .sentinel, .sentinel], laidTests := true, laidLooks := .later }
def OrdersFewUptoCardSaid : Prop := Claim7.holds Tryz.pinned (.plain (OpenSpec.upto ordersFewSpec)) ordersFewUptoCard

/-- THE SECOND FORM's CARD OF 'pasodoblelaw15.OrdersWait'. -/
def ordersWaitUptoCard : Claim7 := { stood := { row := ordersWaitUptoRow, standIns := [], harness := (true, "12ceb3cfa6ce9ddf97508104734580e6e7135de21b6ad3d6afdd0337b9614ad8"), looks := true }, kinds := [], alts := [], laidByText := true, laidKinds := [.data, .data, .data, .sentinel, .sentinel, .sentinel, .sentinel, .sentinel, .sentinel, .sentinel, .sentinel, .sentinel], laidTests := true, laidLooks := .later }
def OrdersWaitUptoCardSaid : Prop := Claim7.holds Tryz.pinned (.plain (OpenSpec.upto ordersWaitSpec)) ordersWaitUptoCard

/-- THE SECOND FORM's CARD OF 'pasodoblelaw15.OrdersTurns'. -/
def ordersTurnsUptoCard : Claim7 := { stood := { row := ordersTurnsUptoRow, standIns := [], harness := (true, "12ceb3cfa6ce9ddf97508104734580e6e7135de21b6ad3d6afdd0337b9614ad8"), looks := true }, kinds := [], alts := [], laidByText := true, laidKinds := [.data, .data, .data, .sentinel, .sentinel, .sentinel, .sentinel, .sentinel, .sentinel, .sentinel, .sentinel, .sentinel], laidTests := true, laidLooks := .later }
def OrdersTurnsUptoCardSaid : Prop := Claim7.holds Tryz.pinned (.plain (OpenSpec.upto ordersTurnsSpec)) ordersTurnsUptoCard
end Rows
end Go.Proofs.YtmidldeaapdjoaaGreatDoor
