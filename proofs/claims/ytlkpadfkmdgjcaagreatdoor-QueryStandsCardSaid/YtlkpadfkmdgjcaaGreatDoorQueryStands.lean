/-
QueryStands returns true for every input and leaves its arguments as they were; and that is the given, tied card. Conditions: the package variables that the row lists hold what the program's text lays.
-/
import Derived.Test.YtlkpadfkmdgjcaaGreatDoorQueryStandsFacts
import Derived.Test.YtlkpadfkmdgjcaaGreatDoorTie
import Derived.Test.YtlkpadfkmdgjcaaGreatDoorCards
import Derived.SevenTiedAt
section
set_option linter.unusedSimpArgs false
set_option linter.unusedVariables false
namespace Go.Proofs.YtlkpadfkmdgjcaaGreatDoor
open Go Go.Ev Go.RowKit Go.ChangeShapes Go.WideShapes Go.ChangeAt
set_option linter.unusedVariables false
set_option maxRecDepth 100000
theorem queryStands_holds : Rows.QueryStandsSaid :=
  OpenClaim.holds_of_wide 10 Tryz.f10 rfl rfl rfl rfl rfl rfl rfl ⟨rfl, rfl, rfl, rfl, rfl⟩ rfl rfl rfl rfl rfl ST.named_QueryStands Tryz.func10 ST.closed_QueryStands
    (of_decide_eq_true (by kernel_rfl)) (by unfold Func.isWrapper; first | (rw [if_pos (by decide +kernel)]; kernel_rfl) | (rw [if_neg (by decide +kernel)]; exact ⟨rfl, rfl⟩))
    (fun os started H enc _ => ST.lifted os started H enc)
#print axioms queryStands_holds
end Go.Proofs.YtlkpadfkmdgjcaaGreatDoor
end
section
set_option linter.unusedSimpArgs false
set_option linter.unusedVariables false
namespace Go.Proofs.YtlkpadfkmdgjcaaGreatDoor
open Go
set_option maxRecDepth 100000

/-- THE TIED CARD OF QueryStands. -/
theorem queryStands_card_holds : Rows.QueryStandsCardSaid :=
  Claim7.holds_tied_plain_at .later [] [.data, .data, .data, .sentinel, .sentinel, .sentinel, .sentinel, .sentinel, .sentinel, .sentinel, .sentinel, .sentinel, .sentinel, .sentinel, .sentinel, .sentinel, .sentinel, .sentinel, .sentinel, .sentinel, .sentinel] true (true, "68b16e1fe8f73ac8b2c8ac53ac3d0798a9a31e1dc6786c50004935c23e801c10") true
    queryStands_holds (fun _ h => by cases h) (by kernel_rfl) (fun _ h => by cases h) queryStands_row_tie rfl ⟨rfl, rfl⟩ (by kernel_rfl) rfl
    (fun f fn hf hfn => by
      obtain rfl : f = 10 := Option.some.inj ((show Tryz.prog.funcNamed "pasodoble/pasodoblelaw11.QueryStands" = some 10 by kernel_rfl).symm.trans hf) |>.symm
      obtain rfl : fn = Tryz.f10 := (Option.some.inj (Tryz.func10.symm.trans hfn)).symm
      exact ⟨by kernel_rfl, fun j t ht => by
        rw [Tryz.params10] at ht
        have hm : t ∈ ([98, 100, 3] : List Nat) := by simpa using Array.mem_of_getElem? ht
        have hall : (([98, 100, 3] : List Nat).all fun u => !Tryz.prog.wantsStandIn u) = true := by kernel_rfl
        exact (show Tryz.prog.wantsStandIn t = false by simpa using List.all_eq_true.1 hall t hm)⟩)
    (by kernel_rfl)
#print axioms queryStands_card_holds
end Go.Proofs.YtlkpadfkmdgjcaaGreatDoor
end
