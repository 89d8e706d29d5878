/-
What the row of MillEnds says of the program, computed: no statement of the seat is proved in this part.
-/
import Derived.Test.YtenokhokboicnaaGreatDoorMend7
set_option linter.unusedSimpArgs false
set_option linter.unusedVariables false
set_option maxRecDepth 100000
namespace Go.Proofs.YtenokhokboicnaaGreatDoor
open Go Go.Ev Go.RowKit Go.ChangeShapes Go.WideShapes Go.ChangeAt
section
namespace ST
theorem named_MillEnds : Tryz.pinned.checked.prog.funcNamed Rows.millEndsRow.func = some 4 := by kernel_rfl
theorem band {a b : Bool} (h1 : a = true) (h2 : b = true) : (a && b) = true := by rw [h1, h2]; rfl
theorem jn1 : (Rows.millEndsRow.wf (OpenSpec.ofChange Rows.millEndsSpec)) = true := by kernel_rfl
theorem jn2 : (laidOutB Tryz.pinned.checked.prog) = true := by kernel_rfl
theorem jn3 : (mapsRowed Tryz.pinned.checked.prog) = true := by kernel_rfl
theorem jn4 : (Tryz.f4.params.all (Tryz.pinned.checked.prog.readableRec ·)) = true := by kernel_rfl
theorem jn5 : (namedTie Tryz.pinned.checked.prog Rows.millEndsRow.named Rows.millEndsSpec.vars) = true := by kernel_rfl
theorem jn6 : ((Rows.millEndsRow.stops == [])) = true := by kernel_rfl
theorem jn7 : ((Tryz.pinned.checked.prog.stops == [])) = true := by kernel_rfl
theorem jn8 : ((Rows.millEndsRow.knobs == [])) = true := by kernel_rfl
theorem jn9 : ((Tryz.pinned.checked.prog.stopKnobs == [])) = true := by kernel_rfl
theorem jn10 : ((Rows.millEndsRow.inPlace == Tryz.pinned.checked.prog.inPlace 4)) = true := by kernel_rfl
theorem jn11 : ((Rows.millEndsRow.unfollowed == Tryz.pinned.checked.prog.unfollowed 4)) = true := by kernel_rfl
theorem jn12 : ((Rows.millEndsRow.recurses == Tryz.pinned.checked.prog.recurses 4)) = true := by kernel_rfl
theorem jn13 : ((Rows.millEndsRow.named == Tryz.pinned.checked.prog.varsNamed 4)) = true := by kernel_rfl
theorem jn14 : ((Rows.millEndsRow.maps == (Tryz.f4.params.toList ++ Rows.millEndsSpec.plain.varTypes Tryz.pinned.checked.prog).any (Tryz.pinned.checked.prog.mapsRec ·))) = true := by kernel_rfl
theorem jn15 : ((Rows.millEndsRow.ifaces == (Tryz.f4.params.toList ++ Rows.millEndsSpec.plain.varTypes Tryz.pinned.checked.prog).any (Tryz.pinned.checked.prog.ifacesRec ·))) = true := by kernel_rfl
theorem jn16 : ((Rows.millEndsRow.mapsOut == Tryz.pinned.checked.prog.mapsAmong Tryz.f4.resultTypes.toList)) = true := by kernel_rfl
theorem jn17 : ((Rows.millEndsRow.loops == (Tryz.f4.params.toList ++ Rows.millEndsSpec.plain.varTypes Tryz.pinned.checked.prog).any (Tryz.pinned.checked.prog.loopsFrom ·))) = true := by kernel_rfl
theorem jn18 : ((Rows.millEndsRow.wideKeys == (Tryz.f4.params.toList ++ Rows.millEndsSpec.plain.varTypes Tryz.pinned.checked.prog ++ Tryz.f4.resultTypes.toList).any (Tryz.pinned.checked.prog.wideKeysFrom ·))) = true := by kernel_rfl
theorem jn19 : (Rows.millEndsSpec.vars.all (Tryz.pinned.checked.prog.varReadable ·)) = true := by kernel_rfl
theorem jn20 : (Tryz.f4.resultTypes.all (fun t => Tryz.pinned.checked.prog.readableRec t && decide (t < Tryz.pinned.checked.prog.types.size))) = true := by kernel_rfl
theorem jn21 : ((Rows.millEndsRow.ifacesOut == Tryz.f4.resultTypes.toList.any (Tryz.pinned.checked.prog.ifacesRec ·))) = true := by kernel_rfl
theorem jn22 : ((Rows.millEndsRow.loopsOut == Tryz.f4.resultTypes.toList.any (Tryz.pinned.checked.prog.loopsFrom ·))) = true := by kernel_rfl
theorem jn23 : ((Rows.millEndsRow.plainKeys == Tryz.pinned.checked.prog.plainKeys)) = true := by kernel_rfl
theorem jn24 : (Rows.millEndsRow.shortTexts.isNone) = true := by kernel_rfl
theorem jn25 : (Tryz.pinned.checked.prog.stopsHeard) = true := by kernel_rfl
theorem jn26 : (Tryz.pinned.checked.prog.mayEnter) = true := by kernel_rfl
theorem jn27 : ((Rows.millEndsRow.lifted == Tryz.pinned.checked.prog.liftsFinal)) = true := by kernel_rfl
theorem jn28 : ((Tryz.pinned.checked.prog.make == some Rows.millEndsRow.make)) = true := by kernel_rfl
theorem jn29 : ((Rows.millEndsRow.kinds == (if Rows.millEndsRow.domain.isEmpty then [] else Tryz.f4.params.toList.map fun t => match Tryz.pinned.checked.prog.underlying t with | some (.int k) => some k | _ => none))) = true := by kernel_rfl
theorem jn30 : ((Rows.millEndsRow.pinned == Rows.millEndsRow.pinnedBy)) = true := by kernel_rfl
theorem jn31 : ((Rows.millEndsRow.veiled == (Tryz.f4.params.toList ++ Rows.millEndsSpec.plain.varTypes Tryz.pinned.checked.prog ++ Tryz.f4.resultTypes.toList).any (Tryz.pinned.checked.prog.veiledRec ·))) = true := by kernel_rfl
theorem jn32 : (Rows.millEndsRow.veiledFits Tryz.pinned.checked.prog Tryz.f4.params.toList (Tryz.f4.params.toList ++ Rows.millEndsSpec.plain.varTypes Tryz.pinned.checked.prog ++ Tryz.f4.resultTypes.toList)) = true := by kernel_rfl
theorem closed_MillEnds : joinedFacts Tryz.pinned.checked.prog 4 Tryz.f4 Rows.millEndsSpec Rows.millEndsRow = true := by
 unfold joinedFacts
 exact (band (band (band (band (band (band (band (band (band (band (band (band (band (band (band (band (band (band (band (band (band (band (band (band (band (band (band (band (band (band (band jn1 jn2) jn3) jn4) jn5) jn6) jn7) jn8) jn9) jn10) jn11) jn12) jn13) jn14) jn15) jn16) jn17) jn18) jn19) jn20) jn21) jn22) jn23) jn24) jn25) jn26) jn27) jn28) jn29) jn30) jn31) jn32)
end ST
end
end Go.Proofs.YtenokhokboicnaaGreatDoor
