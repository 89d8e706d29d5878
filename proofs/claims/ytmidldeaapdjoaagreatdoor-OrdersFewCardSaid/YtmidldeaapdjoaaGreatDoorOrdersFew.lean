/-
OrdersFew returns true for every input and leaves its arguments as they were; and that is the given, tied card.
Conditions: the package variables that the row lists hold what the program's text lays (the card ties them to that text); nothing else is asked of the input.
-/
import Derived.Test.YtmidldeaapdjoaaGreatDoorOrdersFewFacts
import Derived.Test.YtmidldeaapdjoaaGreatDoorTie
import Derived.Test.YtmidldeaapdjoaaGreatDoorCards
import Derived.SevenTiedAt
section
set_option linter.unusedSimpArgs false
set_option linter.unusedVariables false
namespace Go.Proofs.YtmidldeaapdjoaaGreatDoor
open Go Go.Ev Go.RowKit Go.ChangeShapes Go.WideShapes Go.ChangeAt
set_option linter.unusedVariables false
set_option maxRecDepth 100000
theorem ordersFew_holds : Rows.OrdersFewSaid :=
  OpenClaim.holds_of_wide 4 Tryz.f4 rfl rfl rfl rfl rfl rfl rfl ⟨rfl, rfl, rfl, rfl, rfl⟩ rfl rfl rfl rfl rfl ST.named_OrdersFew Tryz.func4 ST.closed_OrdersFew
    (of_decide_eq_true (by kernel_rfl)) (by unfold Func.isWrapper; first | (rw [if_pos (by decide +kernel)]; kernel_rfl) | (rw [if_neg (by decide +kernel)]; exact ⟨rfl, rfl⟩))
    (fun os started H enc _ => ST.lifted os started H enc)
#print axioms ordersFew_holds
end Go.Proofs.YtmidldeaapdjoaaGreatDoor
end
section
set_option linter.unusedSimpArgs false
set_option linter.unusedVariables false
namespace Go.Proofs.YtmidldeaapdjoaaGreatDoor
open Go
set_option maxRecDepth 100000

/-- THE TIED CARD OF OrdersFew. -/
theorem ordersFew_card_holds : Rows.OrdersFewCardSaid :=
  Claim7.holds_tied_plain_at .later [] [.data, .data, .data, .sentinel, .sentinel, .sentinel, .sentinel, .sentinel, .sentinel, .sentinel, .sentinel, .sentinel] true (true, "12ceb3cfa6ce9ddf97508104734580e6e7135de21b6ad3d6afdd0337b9614ad8") true
    ordersFew_holds (fun _ h => by cases h) (by kernel_rfl) (fun _ h => by cases h) ordersFew_row_tie rfl ⟨rfl, rfl⟩ (by kernel_rfl) rfl
    (fun f fn hf hfn => by
      obtain rfl : f = 4 := Option.some.inj ((show Tryz.prog.funcNamed "pasodoble/pasodoblelaw15.OrdersFew" = some 4 by kernel_rfl).symm.trans hf) |>.symm
      obtain rfl : fn = Tryz.f4 := (Option.some.inj (Tryz.func4.symm.trans hfn)).symm
      exact ⟨by kernel_rfl, fun j t ht => by
        rw [Tryz.params4] at ht
        have hm : t ∈ ([3, 61] : List Nat) := by simpa using Array.mem_of_getElem? ht
        have hall : (([3, 61] : List Nat).all fun u => !Tryz.prog.wantsStandIn u) = true := by kernel_rfl
        exact (show Tryz.prog.wantsStandIn t = false by simpa using List.all_eq_true.1 hall t hm)⟩)
    (by kernel_rfl)
#print axioms ordersFew_card_holds
end Go.Proofs.YtmidldeaapdjoaaGreatDoor
end
