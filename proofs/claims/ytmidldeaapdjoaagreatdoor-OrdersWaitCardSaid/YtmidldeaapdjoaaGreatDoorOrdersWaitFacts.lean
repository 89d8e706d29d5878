/-
The facts of the row of OrdersWait, one by one; the conditions are those of the row.
-/
import Derived.Test.YtmidldeaapdjoaaGreatDoorWait6
set_option linter.unusedSimpArgs false
set_option linter.unusedVariables false
set_option maxRecDepth 100000
namespace Go.Proofs.YtmidldeaapdjoaaGreatDoor
open Go Go.Ev Go.RowKit Go.ChangeShapes Go.WideShapes Go.ChangeAt
section
namespace ST
theorem named_OrdersWait : Tryz.pinned.checked.prog.funcNamed Rows.ordersWaitRow.func = some 5 := by kernel_rfl
theorem band {a b : Bool} (h1 : a = true) (h2 : b = true) : (a && b) = true := by rw [h1, h2]; rfl
theorem jn1 : (Rows.ordersWaitRow.wf (OpenSpec.ofChange Rows.ordersWaitSpec)) = true := by kernel_rfl
theorem jn2 : (laidOutB Tryz.pinned.checked.prog) = true := by kernel_rfl
theorem jn3 : (mapsRowed Tryz.pinned.checked.prog) = true := by kernel_rfl
theorem jn4 : (Tryz.f5.params.all (Tryz.pinned.checked.prog.readableRec ·)) = true := by kernel_rfl
theorem jn5 : (namedTie Tryz.pinned.checked.prog Rows.ordersWaitRow.named Rows.ordersWaitSpec.vars) = true := by kernel_rfl
theorem jn6 : ((Rows.ordersWaitRow.stops == [])) = true := by kernel_rfl
theorem jn7 : ((Tryz.pinned.checked.prog.stops == [])) = true := by kernel_rfl
theorem jn8 : ((Rows.ordersWaitRow.knobs == [])) = true := by kernel_rfl
theorem jn9 : ((Tryz.pinned.checked.prog.stopKnobs == [])) = true := by kernel_rfl
theorem jn10 : ((Rows.ordersWaitRow.inPlace == Tryz.pinned.checked.prog.inPlace 5)) = true := by kernel_rfl
theorem jn11 : ((Rows.ordersWaitRow.unfollowed == Tryz.pinned.checked.prog.unfollowed 5)) = true := by kernel_rfl
theorem jn12 : ((Rows.ordersWaitRow.recurses == Tryz.pinned.checked.prog.recurses 5)) = true := by kernel_rfl
theorem jn13 : ((Rows.ordersWaitRow.named == Tryz.pinned.checked.prog.varsNamed 5)) = true := by kernel_rfl
theorem jn14 : ((Rows.ordersWaitRow.maps == (Tryz.f5.params.toList ++ Rows.ordersWaitSpec.plain.varTypes Tryz.pinned.checked.prog).any (Tryz.pinned.checked.prog.mapsRec ·))) = true := by kernel_rfl
theorem jn15 : ((Rows.ordersWaitRow.ifaces == (Tryz.f5.params.toList ++ Rows.ordersWaitSpec.plain.varTypes Tryz.pinned.checked.prog).any (Tryz.pinned.checked.prog.ifacesRec ·))) = true := by kernel_rfl
theorem jn16 : ((Rows.ordersWaitRow.mapsOut == Tryz.pinned.checked.prog.mapsAmong Tryz.f5.resultTypes.toList)) = true := by kernel_rfl
theorem jn17 : ((Rows.ordersWaitRow.loops == (Tryz.f5.params.toList ++ Rows.ordersWaitSpec.plain.varTypes Tryz.pinned.checked.prog).any (Tryz.pinned.checked.prog.loopsFrom ·))) = true := by kernel_rfl
theorem jn18 : ((Rows.ordersWaitRow.wideKeys == (Tryz.f5.params.toList ++ Rows.ordersWaitSpec.plain.varTypes Tryz.pinned.checked.prog ++ Tryz.f5.resultTypes.toList).any (Tryz.pinned.checked.prog.wideKeysFrom ·))) = true := by kernel_rfl
theorem jn19 : (Rows.ordersWaitSpec.vars.all (Tryz.pinned.checked.prog.varReadable ·)) = true := by kernel_rfl
theorem jn20 : (Tryz.f5.resultTypes.all (fun t => Tryz.pinned.checked.prog.readableRec t && decide (t < Tryz.pinned.checked.prog.types.size))) = true := by kernel_rfl
theorem jn21 : ((Rows.ordersWaitRow.ifacesOut == Tryz.f5.resultTypes.toList.any (Tryz.pinned.checked.prog.ifacesRec ·))) = true := by kernel_rfl
theorem jn22 : ((Rows.ordersWaitRow.loopsOut == Tryz.f5.resultTypes.toList.any (Tryz.pinned.checked.prog.loopsFrom ·))) = true := by kernel_rfl
theorem jn23 : ((Rows.ordersWaitRow.plainKeys == Tryz.pinned.checked.prog.plainKeys)) = true := by kernel_rfl
theorem jn24 : (Rows.ordersWaitRow.shortTexts.isNone) = true := by kernel_rfl
theorem jn25 : (Tryz.pinned.checked.prog.stopsHeard) = true := by kernel_rfl
theorem jn26 : (Tryz.pinned.checked.prog.mayEnter) = true := by kernel_rfl
theorem jn27 : ((Rows.ordersWaitRow.lifted == Tryz.pinned.checked.prog.liftsFinal)) = true := by kernel_rfl
theorem jn28 : ((Tryz.pinned.checked.prog.make == some Rows.ordersWaitRow.make)) = true := by kernel_rfl
theorem jn29 : ((Rows.ordersWaitRow.kinds == (if Rows.ordersWaitRow.domain.isEmpty then [] else Tryz.f5.params.toList.map fun t => match Tryz.pinned.checked.prog.underlying t with | some (.int k) => some k | _ => none))) = true := by kernel_rfl
theorem jn30 : ((Rows.ordersWaitRow.pinned == Rows.ordersWaitRow.pinnedBy)) = true := by kernel_rfl
theorem jn31 : ((Rows.ordersWaitRow.veiled == (Tryz.f5.params.toList ++ Rows.ordersWaitSpec.plain.varTypes Tryz.pinned.checked.prog ++ Tryz.f5.resultTypes.toList).any (Tryz.pinned.checked.prog.veiledRec ·))) = true := by kernel_rfl
theorem jn32 : (Rows.ordersWaitRow.veiledFits Tryz.pinned.checked.prog Tryz.f5.params.toList (Tryz.f5.params.toList ++ Rows.ordersWaitSpec.plain.varTypes Tryz.pinned.checked.prog ++ Tryz.f5.resultTypes.toList)) = true := by kernel_rfl
theorem closed_OrdersWait : joinedFacts Tryz.pinned.checked.prog 5 Tryz.f5 Rows.ordersWaitSpec Rows.ordersWaitRow = true := by
 unfold joinedFacts
 exact (band (band (band (band (band (band (band (band (band (band (band (band (band (band (band (band (band (band (band (band (band (band (band (band (band (band (band (band (band (band (band jn1 jn2) jn3) jn4) jn5) jn6) jn7) jn8) jn9) jn10) jn11) jn12) jn13) jn14) jn15) jn16) jn17) jn18) jn19) jn20) jn21) jn22) jn23) jn24) jn25) jn26) jn27) jn28) jn29) jn30) jn31) jn32)
end ST
end
end Go.Proofs.YtmidldeaapdjoaaGreatDoor
