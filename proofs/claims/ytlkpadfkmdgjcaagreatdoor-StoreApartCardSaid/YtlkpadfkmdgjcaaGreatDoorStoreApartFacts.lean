/-
StoreApart: the row's facts, computed; no statement is proved in this part; no condition.
-/
import Derived.Test.YtlkpadfkmdgjcaaGreatDoorStore7
section
set_option linter.unusedSimpArgs false
set_option linter.unusedVariables false
namespace Go.Proofs.YtlkpadfkmdgjcaaGreatDoor
open Go Go.Ev Go.RowKit Go.ChangeShapes Go.WideShapes Go.ChangeAt
set_option linter.unusedVariables false
set_option maxRecDepth 100000
namespace ST
theorem named_StoreApart : Tryz.pinned.checked.prog.funcNamed Rows.storeApartRow.func = some 6 := by kernel_rfl
theorem band {a b : Bool} (h1 : a = true) (h2 : b = true) : (a && b) = true := by rw [h1, h2]; rfl
theorem jn1 : (Rows.storeApartRow.wf (OpenSpec.ofChange Rows.storeApartSpec)) = true := by kernel_rfl
theorem jn2 : (laidOutB Tryz.pinned.checked.prog) = true := by kernel_rfl
theorem jn3 : (mapsRowed Tryz.pinned.checked.prog) = true := by kernel_rfl
theorem jn4 : (Tryz.f6.params.all (Tryz.pinned.checked.prog.readableRec ·)) = true := by kernel_rfl
theorem jn5 : (namedTie Tryz.pinned.checked.prog Rows.storeApartRow.named Rows.storeApartSpec.vars) = true := by kernel_rfl
theorem jn6 : ((Rows.storeApartRow.stops == [])) = true := by kernel_rfl
theorem jn7 : ((Tryz.pinned.checked.prog.stops == [])) = true := by kernel_rfl
theorem jn8 : ((Rows.storeApartRow.knobs == [])) = true := by kernel_rfl
theorem jn9 : ((Tryz.pinned.checked.prog.stopKnobs == [])) = true := by kernel_rfl
theorem jn10 : ((Rows.storeApartRow.inPlace == Tryz.pinned.checked.prog.inPlace 6)) = true := by kernel_rfl
theorem jn11 : ((Rows.storeApartRow.unfollowed == Tryz.pinned.checked.prog.unfollowed 6)) = true := by kernel_rfl
theorem jn12 : ((Rows.storeApartRow.recurses == Tryz.pinned.checked.prog.recurses 6)) = true := by kernel_rfl
theorem jn13 : ((Rows.storeApartRow.named == Tryz.pinned.checked.prog.varsNamed 6)) = true := by kernel_rfl
theorem jn14 : ((Rows.storeApartRow.maps == (Tryz.f6.params.toList ++ Rows.storeApartSpec.plain.varTypes Tryz.pinned.checked.prog).any (Tryz.pinned.checked.prog.mapsRec ·))) = true := by kernel_rfl
theorem jn15 : ((Rows.storeApartRow.ifaces == (Tryz.f6.params.toList ++ Rows.storeApartSpec.plain.varTypes Tryz.pinned.checked.prog).any (Tryz.pinned.checked.prog.ifacesRec ·))) = true := by kernel_rfl
theorem jn16 : ((Rows.storeApartRow.mapsOut == Tryz.pinned.checked.prog.mapsAmong Tryz.f6.resultTypes.toList)) = true := by kernel_rfl
theorem jn17 : ((Rows.storeApartRow.loops == (Tryz.f6.params.toList ++ Rows.storeApartSpec.plain.varTypes Tryz.pinned.checked.prog).any (Tryz.pinned.checked.prog.loopsFrom ·))) = true := by kernel_rfl
theorem jn18 : ((Rows.storeApartRow.wideKeys == (Tryz.f6.params.toList ++ Rows.storeApartSpec.plain.varTypes Tryz.pinned.checked.prog ++ Tryz.f6.resultTypes.toList).any (Tryz.pinned.checked.prog.wideKeysFrom ·))) = true := by kernel_rfl
theorem jn19 : (Rows.storeApartSpec.vars.all (Tryz.pinned.checked.prog.varReadable ·)) = true := by kernel_rfl
theorem jn20 : (Tryz.f6.resultTypes.all (fun t => Tryz.pinned.checked.prog.readableRec t && decide (t < Tryz.pinned.checked.prog.types.size))) = true := by kernel_rfl
theorem jn21 : ((Rows.storeApartRow.ifacesOut == Tryz.f6.resultTypes.toList.any (Tryz.pinned.checked.prog.ifacesRec ·))) = true := by kernel_rfl
theorem jn22 : ((Rows.storeApartRow.loopsOut == Tryz.f6.resultTypes.toList.any (Tryz.pinned.checked.prog.loopsFrom ·))) = true := by kernel_rfl
theorem jn23 : ((Rows.storeApartRow.plainKeys == Tryz.pinned.checked.prog.plainKeys)) = true := by kernel_rfl
theorem jn24 : (Rows.storeApartRow.shortTexts.isNone) = true := by kernel_rfl
theorem jn25 : (Tryz.pinned.checked.prog.stopsHeard) = true := by kernel_rfl
theorem jn26 : (Tryz.pinned.checked.prog.mayEnter) = true := by kernel_rfl
theorem jn27 : ((Rows.storeApartRow.lifted == Tryz.pinned.checked.prog.liftsFinal)) = true := by kernel_rfl
theorem jn28 : ((Tryz.pinned.checked.prog.make == some Rows.storeApartRow.make)) = true := by kernel_rfl
theorem jn29 : ((Rows.storeApartRow.kinds == (if Rows.storeApartRow.domain.isEmpty then [] else Tryz.f6.params.toList.map fun t => match Tryz.pinned.checked.prog.underlying t with | some (.int k) => some k | _ => none))) = true := by kernel_rfl
theorem jn30 : ((Rows.storeApartRow.pinned == Rows.storeApartRow.pinnedBy)) = true := by kernel_rfl
theorem jn31 : ((Rows.storeApartRow.veiled == (Tryz.f6.params.toList ++ Rows.storeApartSpec.plain.varTypes Tryz.pinned.checked.prog ++ Tryz.f6.resultTypes.toList).any (Tryz.pinned.checked.prog.veiledRec ·))) = true := by kernel_rfl
theorem jn32 : (Rows.storeApartRow.veiledFits Tryz.pinned.checked.prog Tryz.f6.params.toList (Tryz.f6.params.toList ++ Rows.storeApartSpec.plain.varTypes Tryz.pinned.checked.prog ++ Tryz.f6.resultTypes.toList)) = true := by kernel_rfl
theorem closed_StoreApart : joinedFacts Tryz.pinned.checked.prog 6 Tryz.f6 Rows.storeApartSpec Rows.storeApartRow = true := by
  unfold joinedFacts
  exact (band (band (band (band (band (band (band (band (band (band (band (band (band (band (band (band (band (band (band (band (band (band (band (band (band (band (band (band (band (band (band jn1 jn2) jn3) jn4) jn5) jn6) jn7) jn8) jn9) jn10) jn11) jn12) jn13) jn14) jn15) jn16) jn17) jn18) jn19) jn20) jn21) jn22) jn23) jn24) jn25) jn26) jn27) jn28) jn29) jn30) jn31) jn32)
end ST
end Go.Proofs.YtlkpadfkmdgjcaaGreatDoor
end
