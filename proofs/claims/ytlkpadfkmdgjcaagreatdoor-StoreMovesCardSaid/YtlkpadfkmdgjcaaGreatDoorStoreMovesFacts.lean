/-
StoreMoves: the row's facts, computed; no statement is proved in this part; no condition.
-/
import Derived.Test.YtlkpadfkmdgjcaaGreatDoorStore7
section
set_option linter.unusedSimpArgs false
set_option linter.unusedVariables false
namespace Go.Proofs.YtlkpadfkmdgjcaaGreatDoor
open Go Go.Ev Go.RowKit Go.ChangeShapes Go.WideShapes Go.ChangeAt
set_option linter.unusedVariables false
set_option maxRecDepth 100000
namespace ST
theorem named_StoreMoves : Tryz.pinned.checked.prog.funcNamed Rows.storeMovesRow.func = some 4 := by kernel_rfl
theorem closed_StoreMoves : joinedFacts Tryz.pinned.checked.prog 4 Tryz.f4 Rows.storeMovesSpec Rows.storeMovesRow = true := by kernel_rfl
end ST
end Go.Proofs.YtlkpadfkmdgjcaaGreatDoor
end
