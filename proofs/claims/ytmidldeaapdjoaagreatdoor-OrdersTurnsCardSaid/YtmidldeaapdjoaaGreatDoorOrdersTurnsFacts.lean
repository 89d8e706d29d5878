/-
The facts of the row of OrdersTurns, one by one; the conditions are those of the row.
-/
import Derived.Test.YtmidldeaapdjoaaGreatDoorTurns7
set_option linter.unusedSimpArgs false
set_option linter.unusedVariables false
set_option maxRecDepth 100000
namespace Go.Proofs.YtmidldeaapdjoaaGreatDoor
open Go Go.Ev Go.RowKit Go.ChangeShapes Go.WideShapes Go.ChangeAt
section
namespace ST
theorem named_OrdersTurns : Tryz.pinned.checked.prog.funcNamed Rows.ordersTurnsRow.func = some 6 := by kernel_rfl
theorem band {a b : Bool} (h1 : a = true) (h2 : b = true) : (a && b) = true := by rw [h1, h2]; rfl
theorem jn1 : (Rows.ordersTurnsRow.wf (OpenSpec.ofChange Rows.ordersTurnsSpec)) = true := by kernel_rfl
theorem jn2 : (laidOutB Tryz.pinned.checked.prog) = true := by kernel_rfl
theorem jn3 : (mapsRowed Tryz.pinned.checked.prog) = true := by kernel_rfl
theorem jn4 : (Tryz.f6.params.all (Tryz.pinned.checked.prog.readableRec ·)) = true := by kernel_rfl
theorem jn5 : (namedTie Tryz.pinned.checked.prog Rows.ordersTurnsRow.named Rows.ordersTurnsSpec.vars) = true := by kernel_rfl
theorem jn6 : ((Rows.ordersTurnsRow.stops == [])) = true := by kernel_rfl
theorem jn7 : ((Tryz.pinned.checked.prog.stops == [])) = true := by kernel_rfl
theorem jn8 : ((Rows.ordersTurnsRow.knobs == [])) = true := by kernel_rfl
theorem jn9 : ((Tryz.pinned.checked.prog.stopKnobs == [])) = true := by kernel_rfl
theorem jn10 : ((Rows.ordersTurnsRow.inPlace == Tryz.pinned.checked.prog.inPlace 6)) = true := by kernel_rfl
theorem jn11 : ((Rows.ordersTurnsRow.unfollowed == Tryz.pinned.checked.prog.unfollowed 6)) = true := by kernel_rfl
theorem jn12 : ((Rows.ordersTurnsRow.recurses == Tryz.pinned.checked.prog.recurses 6)) = true := by kernel_rfl
theorem jn13 : ((Rows.ordersTurnsRow.named == Tryz.pinned.checked.prog.varsNamed 6)) = true := by kernel_rfl
theorem jn14 : ((Rows.ordersTurnsRow.maps == (Tryz.f6.params.toList ++ Rows.ordersTurnsSpec.plain.varTypes Tryz.pinned.checked.prog).any (Tryz.pinned.checked.prog.mapsRec ·))) = true := by kernel_rfl
theorem jn15 : ((Rows.ordersTurnsRow.ifaces == (Tryz.f6.params.toList ++ Rows.ordersTurnsSpec.plain.varTypes Tryz.pinned.checked.prog).any (Tryz.pinned.checked.prog.ifacesRec ·))) = true := by kernel_rfl
theorem jn16 : ((Rows.ordersTurnsRow.mapsOut == Tryz.pinned.checked.prog.mapsAmong Tryz.f6.resultTypes.toList)) = true := by kernel_rfl
theorem jn17 : ((Rows.ordersTurnsRow.loops == (Tryz.f6.params.toList ++ Rows.ordersTurnsSpec.plain.varTypes Tryz.pinned.checked.prog).any (Tryz.pinned.checked.prog.loopsFrom ·))) = true := by kernel_rfl
theorem jn18 : ((Rows.ordersTurnsRow.wideKeys == (Tryz.f6.params.toList ++ Rows.ordersTurnsSpec.plain.varTypes Tryz.pinned.checked.prog ++ Tryz.f6.resultTypes.toList).any (Tryz.pinned.checked.prog.wideKeysFrom ·))) = true := by kernel_rfl
theorem jn19 : (Rows.ordersTurnsSpec.vars.all (Tryz.pinned.checked.prog.varReadable ·)) = true := by kernel_rfl
theorem jn20 : (Tryz.f6.resultTypes.all (fun t => Tryz.pinned.checked.prog.readableRec t && decide (t < Tryz.pinned.checked.prog.types.size))) = true := by kernel_rfl
theorem jn21 : ((Rows.ordersTurnsRow.ifacesOut == Tryz.f6.resultTypes.toList.any (Tryz.pinned.checked.prog.ifacesRec ·))) = true := by kernel_rfl
theorem jn22 : ((Rows.ordersTurnsRow.loopsOut == Tryz.f6.resultTypes.toList.any (Tryz.pinned.checked.prog.loopsFrom ·))) = true := by kernel_rfl
theorem jn23 : ((Rows.ordersTurnsRow.plainKeys == Tryz.pinned.checked.prog.plainKeys)) = true := by kernel_rfl
theorem jn24 : (Rows.ordersTurnsRow.shortTexts.isNone) = true := by kernel_rfl
theorem jn25 : (Tryz.pinned.checked.prog.stopsHeard) = true := by kernel_rfl
theorem jn26 : (Tryz.pinned.checked.prog.mayEnter) = true := by kernel_rfl
theorem jn27 : ((Rows.ordersTurnsRow.lifted == Tryz.pinned.checked.prog.liftsFinal)) = true := by kernel_rfl
theorem jn28 : ((Tryz.pinned.checked.prog.make == some Rows.ordersTurnsRow.make)) = true := by kernel_rfl
theorem jn29 : ((Rows.ordersTurnsRow.kinds == (if Rows.ordersTurnsRow.domain.isEmpty then [] else Tryz.f6.params.toList.map fun t => match Tryz.pinned.checked.prog.underlying t with | some (.int k) => some k | _ => none))) = true := by kernel_rfl
theorem jn30 : ((Rows.ordersTurnsRow.pinned == Rows.ordersTurnsRow.pinnedBy)) = true := by kernel_rfl
theorem jn31 : ((Rows.ordersTurnsRow.veiled == (Tryz.f6.params.toList ++ Rows.ordersTurnsSpec.plain.varTypes Tryz.pinned.checked.prog ++ Tryz.f6.resultTypes.toList).any (Tryz.pinned.checked.prog.veiledRec ·))) = true := by kernel_rfl
theorem jn32 : (Rows.ordersTurnsRow.veiledFits Tryz.pinned.checked.prog Tryz.f6.params.toList (Tryz.f6.params.toList ++ Rows.ordersTurnsSpec.plain.varTypes Tryz.pinned.checked.prog ++ Tryz.f6.resultTypes.toList)) = true := by kernel_rfl
theorem closed_OrdersTurns : joinedFacts Tryz.pinned.checked.prog 6 Tryz.f6 Rows.ordersTurnsSpec Rows.ordersTurnsRow = true := by
 unfold joinedFacts
 exact (band (band (band (band (band (band (band (band (band (band (band (band (band (band (band (band (band (band (band (band (band (band (band (band (band (band (band (band (band (band (band jn1 jn2) jn3) jn4) jn5) jn6) jn7) jn8) jn9) jn10) jn11) jn12) jn13) jn14) jn15) jn16) jn17) jn18) jn19) jn20) jn21) jn22) jn23) jn24) jn25) jn26) jn27) jn28) jn29) jn30) jn31) jn32)
end ST
end
end Go.Proofs.YtmidldeaapdjoaaGreatDoor
