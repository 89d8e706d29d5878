/-
QueryStands: the row's facts, computed; no statement is proved in this part; no condition.
-/
import Derived.Test.YtlkpadfkmdgjcaaGreatDoorQuery6
section
set_option linter.unusedSimpArgs false
set_option linter.unusedVariables false
namespace Go.Proofs.YtlkpadfkmdgjcaaGreatDoor
open Go Go.Ev Go.RowKit Go.ChangeShapes Go.WideShapes Go.ChangeAt
set_option linter.unusedVariables false
set_option maxRecDepth 100000
namespace ST
theorem named_QueryStands : Tryz.pinned.checked.prog.funcNamed Rows.queryStandsRow.func = some 10 := by kernel_rfl
theorem band {a b : Bool} (h1 : a = true) (h2 : b = true) : (a && b) = true := by rw [h1, h2]; rfl
theorem jn1 : (Rows.queryStandsRow.wf (OpenSpec.ofChange Rows.queryStandsSpec)) = true := by kernel_rfl
theorem jn2 : (laidOutB Tryz.pinned.checked.prog) = true := by kernel_rfl
theorem jn3 : (mapsRowed Tryz.pinned.checked.prog) = true := by kernel_rfl
theorem jn4 : (Tryz.f10.params.all (Tryz.pinned.checked.prog.readableRec ·)) = true := by kernel_rfl
theorem jn5 : (namedTie Tryz.pinned.checked.prog Rows.queryStandsRow.named Rows.queryStandsSpec.vars) = true := by kernel_rfl
theorem jn6 : ((Rows.queryStandsRow.stops == [])) = true := by kernel_rfl
theorem jn7 : ((Tryz.pinned.checked.prog.stops == [])) = true := by kernel_rfl
theorem jn8 : ((Rows.queryStandsRow.knobs == [])) = true := by kernel_rfl
theorem jn9 : ((Tryz.pinned.checked.prog.stopKnobs == [])) = true := by kernel_rfl
theorem jn10 : ((Rows.queryStandsRow.inPlace == Tryz.pinned.checked.prog.inPlace 10)) = true := by kernel_rfl
theorem jn11 : ((Rows.queryStandsRow.unfollowed == Tryz.pinned.checked.prog.unfollowed 10)) = true := by kernel_rfl
theorem jn12 : ((Rows.queryStandsRow.recurses == Tryz.pinned.checked.prog.recurses 10)) = true := by kernel_rfl
theorem jn13 : ((Rows.queryStandsRow.named == Tryz.pinned.checked.prog.varsNamed 10)) = true := by kernel_rfl
theorem jn14 : ((Rows.queryStandsRow.maps == (Tryz.f10.params.toList ++ Rows.queryStandsSpec.plain.varTypes Tryz.pinned.checked.prog).any (Tryz.pinned.checked.prog.mapsRec ·))) = true := by kernel_rfl
theorem jn15 : ((Rows.queryStandsRow.ifaces == (Tryz.f10.params.toList ++ Rows.queryStandsSpec.plain.varTypes Tryz.pinned.checked.prog).any (Tryz.pinned.checked.prog.ifacesRec ·))) = true := by kernel_rfl
theorem jn16 : ((Rows.queryStandsRow.mapsOut == Tryz.pinned.checked.prog.mapsAmong Tryz.f10.resultTypes.toList)) = true := by kernel_rfl
theorem jn17 : ((Rows.queryStandsRow.loops == (Tryz.f10.params.toList ++ Rows.queryStandsSpec.plain.varTypes Tryz.pinned.checked.prog).any (Tryz.pinned.checked.prog.loopsFrom ·))) = true := by kernel_rfl
theorem jn18 : ((Rows.queryStandsRow.wideKeys == (Tryz.f10.params.toList ++ Rows.queryStandsSpec.plain.varTypes Tryz.pinned.checked.prog ++ Tryz.f10.resultTypes.toList).any (Tryz.pinned.checked.prog.wideKeysFrom ·))) = true := by kernel_rfl
theorem jn19 : (Rows.queryStandsSpec.vars.all (Tryz.pinned.checked.prog.varReadable ·)) = true := by kernel_rfl
theorem jn20 : (Tryz.f10.resultTypes.all (fun t => Tryz.pinned.checked.prog.readableRec t && decide (t < Tryz.pinned.checked.prog.types.size))) = true := by kernel_rfl
theorem jn21 : ((Rows.queryStandsRow.ifacesOut == Tryz.f10.resultTypes.toList.any (Tryz.pinned.checked.prog.ifacesRec ·))) = true := by kernel_rfl
theorem jn22 : ((Rows.queryStandsRow.loopsOut == Tryz.f10.resultTypes.toList.any (Tryz.pinned.checked.prog.loopsFrom ·))) = true := by kernel_rfl
theorem jn23 : ((Rows.queryStandsRow.plainKeys == Tryz.pinned.checked.prog.plainKeys)) = true := by kernel_rfl
theorem jn24 : (Rows.queryStandsRow.shortTexts.isNone) = true := by kernel_rfl
theorem jn25 : (Tryz.pinned.checked.prog.stopsHeard) = true := by kernel_rfl
theorem jn26 : (Tryz.pinned.checked.prog.mayEnter) = true := by kernel_rfl
theorem jn27 : ((Rows.queryStandsRow.lifted == Tryz.pinned.checked.prog.liftsFinal)) = true := by kernel_rfl
theorem jn28 : ((Tryz.pinned.checked.prog.make == some Rows.queryStandsRow.make)) = true := by kernel_rfl
theorem jn29 : ((Rows.queryStandsRow.kinds == (if Rows.queryStandsRow.domain.isEmpty then [] else Tryz.f10.params.toList.map fun t => match Tryz.pinned.checked.prog.underlying t with | some (.int k) => some k | _ => none))) = true := by kernel_rfl
theorem jn30 : ((Rows.queryStandsRow.pinned == Rows.queryStandsRow.pinnedBy)) = true := by kernel_rfl
theorem jn31 : ((Rows.queryStandsRow.veiled == (Tryz.f10.params.toList ++ Rows.queryStandsSpec.plain.varTypes Tryz.pinned.checked.prog ++ Tryz.f10.resultTypes.toList).any (Tryz.pinned.checked.prog.veiledRec ·))) = true := by kernel_rfl
theorem jn32 : (Rows.queryStandsRow.veiledFits Tryz.pinned.checked.prog Tryz.f10.params.toList (Tryz.f10.params.toList ++ Rows.queryStandsSpec.plain.varTypes Tryz.pinned.checked.prog ++ Tryz.f10.resultTypes.toList)) = true := by kernel_rfl
theorem closed_QueryStands : joinedFacts Tryz.pinned.checked.prog 10 Tryz.f10 Rows.queryStandsSpec Rows.queryStandsRow = true := by
  unfold joinedFacts
  exact (band (band (band (band (band (band (band (band (band (band (band (band (band (band (band (band (band (band (band (band (band (band (band (band (band (band (band (band (band (band (band jn1 jn2) jn3) jn4) jn5) jn6) jn7) jn8) jn9) jn10) jn11) jn12) jn13) jn14) jn15) jn16) jn17) jn18) jn19) jn20) jn21) jn22) jn23) jn24) jn25) jn26) jn27) jn28) jn29) jn30) jn31) jn32)
end ST
end Go.Proofs.YtlkpadfkmdgjcaaGreatDoor
end
