/-
  DERIVED. GIVEN WITH THE SEED: THE CARDS: each row of YtcabkicjboedaaaDoorRows.lean that lists a variable, with what it lists TIED to the program's text (the seventh form; the later family's looks); each row that meets fmt, with fmt's text TOLD by the authors' own Lean function (tested against real Go, not proved from fmt's source: count such statements apart). THE CARD IS WHAT COUNTS. Prove the row's statement (the work); the ties are given (YtcabkicjboedaaaDoorTie.lean); close each card by the builder's one call (the guide's Derived/Test/ToyasCard.lean, 'card_holds'). Laid BY PROGRAM, IN A SANDBOX (cutbox-door.mjs). By AI agents, Wed Nov 11 2026. No macro, syntax, notation, axiom, sorry.
-/
import Derived.Test.YtcabkicjboedaaaDoorRows
import GoSem.ClaimSeven
namespace Go.Proofs.YtcabkicjboedaaaDoor
namespace Rows

/-- THE TIED CARD OF 'pasodoblelaw11.QueryChecks'. -/
def queryChecksCard : Claim7 := { stood := { row := queryChecksRow, standIns := [], harness := (true, "499b16567e00966c6c90c9f0da176cb3b8599253600dca4ba24c3317ac8734d5"), looks := true }, kinds := [], alts := [], laidByText := true, laidKinds := [.sentinel, .sentinel, .sentinel, .sentinel, .sentinel, .sentinel, .sentinel, .sentinel, .sentinel, .sentinel, .sentinel, .sentinel, .sentinel, .sentinel, .sentinel, .sentinel, .sentinel, .sentinel], laidTests := true, laidLooks := .later }
def QueryChecksCardSaid : Prop := Claim7.holds Tryd.pinned (.plain (OpenSpec.ofChange queryChecksSpec)) queryChecksCard

/-- THE TIED CARD OF 'pasodoblelaw11.QueryParts'. -/
def queryPartsCard : Claim7 := { stood := { row := queryPartsRow, standIns := [], harness := (true, "499b16567e00966c6c90c9f0da176cb3b8599253600dca4ba24c3317ac8734d5"), looks := true }, kinds := [], alts := [], laidByText := true, laidKinds := [.sentinel, .sentinel, .sentinel, .sentinel, .sentinel, .sentinel, .sentinel, .sentinel, .sentinel, .sentinel, .sentinel, .sentinel, .sentinel, .sentinel, .sentinel, .sentinel, .sentinel, .sentinel], laidTests := true, laidLooks := .later }
def QueryPartsCardSaid : Prop := Claim7.holds Tryd.pinned (.plain (OpenSpec.ofChange queryPartsSpec)) queryPartsCard

/-- THE TIED CARD OF 'pasodoblelaw22.SealReads'. -/
def sealReadsCard : Claim7 := { stood := { row := sealReadsRow, standIns := [], harness := (true, "499b16567e00966c6c90c9f0da176cb3b8599253600dca4ba24c3317ac8734d5"), looks := true }, kinds := [], alts := [], laidByText := true, laidKinds := [.data, .data, .data, .sentinel, .sentinel, .sentinel, .sentinel], laidTests := true, laidLooks := .later }
def SealReadsCardSaid : Prop := Claim7.holds Tryd.pinned (.plain (OpenSpec.ofChange sealReadsSpec)) sealReadsCard

/-- THE TIED CARD OF 'pasodoblelaw22.SealCuts'. -/
def sealCutsCard : Claim7 := { stood := { row := sealCutsRow, standIns := [], harness := (true, "499b16567e00966c6c90c9f0da176cb3b8599253600dca4ba24c3317ac8734d5"), looks := true }, kinds := [], alts := [], laidByText := true, laidKinds := [.data, .data, .data, .sentinel, .sentinel, .sentinel, .sentinel], laidTests := true, laidLooks := .later }
def SealCutsCardSaid : Prop := Claim7.holds Tryd.pinned (.plain (OpenSpec.ofChange sealCutsSpec)) sealCutsCard

/-- THE TIED CARD OF 'pasodoblelaw22.SealBack'. -/
def sealBackCard : Claim7 := { stood := { row := sealBackRow, standIns := [], harness := (true, "499b16567e00966c6c90c9f0da176cb3b8599253600dca4ba24c3317ac8734d5"), looks := true }, kinds := [], alts := [], laidByText := true, laidKinds := [.data, .data, .data, .sentinel, .sentinel, .sentinel, .sentinel], laidTests := true, laidLooks := .later }
def SealBackCardSaid : Prop := Claim7.holds Tryd.pinned (.plain (OpenSpec.ofChange sealBackSpec)) sealBackCard

/-- THE SECOND FORM's CARD OF 'pasodoblelaw11.QueryChecks'. -/
def queryChecksUptoCard : Claim7 := { stood := { row := queryChecksUptoRow, standIns := [], harness := (true, "499b16567e00966c6c90c9f0da176cb3b8599253600dca4ba24c3317ac8734d5"), looks := true }, kinds := [], alts := [], laidByText := true, laidKinds := [.sentinel, .sentinel, .sentinel, .sentinel, .sentinel, .sentinel, .sentinel, .sentinel, .sentinel, .sentinel, .sentinel, .sentinel, .sentinel, .sentinel, .sentinel, .sentinel, .sentinel, .sentinel], laidTests := true, laidLooks := .later }
def QueryChecksUptoCardSaid : Prop := Claim7.holds Tryd.pinned (.plain (OpenSpec.upto queryChecksSpec)) queryChecksUptoCard

/-- THE SECOND FORM's CARD OF 'pasodoblelaw11.QueryParts'. -/
def queryPartsUptoCard : Claim7 := { stood := { row := queryPartsUptoRow, standIns := [], harness := (true, "499b16567e00966c6c90c9f0da176cb3b8599253600dca4ba24c3317ac8734d5"), looks := true }, kinds := [], alts := [], laidByText := true, laidKinds := [.sentinel, .sentinel, .sentinel, .sentinel, .sentinel, .sentinel, .sentinel, .sentinel, .sentinel, .sentinel, .sentinel, .sentinel, .sentinel, .sentinel, .sentinel, .sentinel, .sentinel, .sentinel], laidTests := true, laidLooks := .later }
def QueryPartsUptoCardSaid : Prop := Claim7.holds Tryd.pinned (.plain (OpenSpec.upto queryPartsSpec)) queryPartsUptoCard

/-- THE SECOND FORM's CARD OF 'pasodoblelaw22.SealReads'. -/
def sealReadsUptoCard : Claim7 := { stood := { row := sealReadsUptoRow, standIns := [], harness := (true, "499b16567e00966c6c90c9f0da176cb3b8599253600dca4ba24c3317ac8734d5"), looks := true }, kinds := [], alts := [], laidByText := true, laidKinds := [.data, .data, .data, .sentinel, .sentinel, .sentinel, .sentinel], laidTests := true, laidLooks := .later }
def SealReadsUptoCardSaid : Prop := Claim7.holds Tryd.pinned (.plain (OpenSpec.upto sealReadsSpec)) sealReadsUptoCard

/-- THE SECOND FORM's CARD OF 'pasodoblelaw22.SealCuts'. -/
def sealCutsUptoCard : Claim7 := { stood := { row := sealCutsUptoRow, standIns := [], harness := (true, "499b16567e00966c6c90c9f0da176cb3b8599253600dca4ba24c3317ac8734d5"), looks := true }, kinds := [], alts := [], laidByText := true, laidKinds := [.data, .data, .data, .sentinel, .sentinel, .sentinel, .sentinel], laidTests := true, laidLooks := .later }
def SealCutsUptoCardSaid : Prop := Claim7.holds Tryd.pinned (.plain (OpenSpec.upto sealCutsSpec)) sealCutsUptoCard

/-- THE SECOND FORM's CARD OF 'pasodoblelaw22.SealBack'. -/
def sealBackUptoCard : Claim7 := { stood := { row := sealBackUptoRow, standIns := [], harness := (true, "499b16567e00966c6c90c9f0da176cb3b8599253600dca4ba24c3317ac8734d5"), looks := true }, kinds := [], alts := [], laidByText := true, laidKinds := [.data, .data, .data, .sentinel, .sentinel, .sentinel, .sentinel], laidTests := true, laidLooks := .later }
def SealBackUptoCardSaid : Prop := Claim7.holds Tryd.pinned (.plain (OpenSpec.upto sealBackSpec)) sealBackUptoCard
end Rows
end Go.Proofs.YtcabkicjboedaaaDoor
