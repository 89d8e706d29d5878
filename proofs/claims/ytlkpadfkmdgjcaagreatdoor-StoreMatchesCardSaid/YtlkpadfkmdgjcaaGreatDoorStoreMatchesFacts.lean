/-
What the row of StoreMatches says of the program, computed: no statement of the seat is proved in this part.
-/
import Derived.Test.YtlkpadfkmdgjcaaGreatDoorStore6
section
set_option linter.unusedSimpArgs false
set_option linter.unusedVariables false
namespace Go.Proofs.YtlkpadfkmdgjcaaGreatDoor
open Go Go.Ev Go.RowKit Go.ChangeShapes Go.WideShapes Go.ChangeAt
set_option linter.unusedVariables false
set_option maxRecDepth 100000
namespace ST
theorem named_StoreMatches : Tryz.pinned.checked.prog.funcNamed Rows.storeMatchesRow.func = some 3 := by kernel_rfl
theorem closed_StoreMatches : joinedFacts Tryz.pinned.checked.prog 3 Tryz.f3 Rows.storeMatchesSpec Rows.storeMatchesRow = true := by kernel_rfl
end ST
end Go.Proofs.YtlkpadfkmdgjcaaGreatDoor
end
