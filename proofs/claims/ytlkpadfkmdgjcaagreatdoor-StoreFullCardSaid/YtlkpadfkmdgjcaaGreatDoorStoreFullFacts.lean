/-
StoreFull: the row's facts, computed; no statement is proved in this part; no condition.
-/
import Derived.Test.YtlkpadfkmdgjcaaGreatDoorStore6
section
set_option linter.unusedSimpArgs false
set_option linter.unusedVariables false
namespace Go.Proofs.YtlkpadfkmdgjcaaGreatDoor
open Go Go.Ev Go.RowKit Go.ChangeShapes Go.WideShapes Go.ChangeAt
set_option linter.unusedVariables false
set_option maxRecDepth 100000
namespace ST
theorem named_StoreFull : Tryz.pinned.checked.prog.funcNamed Rows.storeFullRow.func = some 5 := by kernel_rfl
theorem closed_StoreFull : joinedFacts Tryz.pinned.checked.prog 5 Tryz.f5 Rows.storeFullSpec Rows.storeFullRow = true := by kernel_rfl
end ST
end Go.Proofs.YtlkpadfkmdgjcaaGreatDoor
end
