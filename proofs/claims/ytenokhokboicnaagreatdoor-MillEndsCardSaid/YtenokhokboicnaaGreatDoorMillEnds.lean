/-
MillEnds returns true for every input and leaves its arguments as they were; and that is the given, tied card.
Conditions: the package variables that the row lists hold what the program's text lays (the card ties them to that text); nothing else is asked of the input.
-/
import Derived.Test.YtenokhokboicnaaGreatDoorMillEndsFacts
import Derived.Test.YtenokhokboicnaaGreatDoorTie
import Derived.Test.YtenokhokboicnaaGreatDoorCards
import Derived.SevenTiedAt
set_option linter.unusedSimpArgs false
set_option linter.unusedVariables false
set_option maxRecDepth 100000
namespace Go.Proofs.YtenokhokboicnaaGreatDoor
open Go Go.Ev Go.RowKit Go.ChangeShapes Go.WideShapes Go.ChangeAt
section
theorem millEnds_holds : Rows.MillEndsSaid :=
 OpenClaim.holds_of_wide 4 Tryz.f4 rfl rfl rfl rfl rfl rfl rfl ⟨rfl, rfl, rfl, rfl, rfl⟩ rfl rfl rfl rfl rfl ST.named_MillEnds Tryz.func4 ST.closed_MillEnds
  (of_decide_eq_true (by kernel_rfl)) (by unfold Func.isWrapper; first | (rw [if_pos (by decide +kernel)]; kernel_rfl) | (rw [if_neg (by decide +kernel)]; exact ⟨rfl, rfl⟩))
  (fun os started H enc _ => ST.lifted os started H enc)
#print axioms millEnds_holds
end
end Go.Proofs.YtenokhokboicnaaGreatDoor
namespace Go.Proofs.YtenokhokboicnaaGreatDoor
open Go
section
theorem millEnds_card_holds : Rows.MillEndsCardSaid :=
 Claim7.holds_tied_plain_at .later [] [.data, .data, .data, .sentinel, .sentinel, .sentinel, .sentinel, .sentinel, .sentinel, .sentinel, .sentinel, .sentinel, .sentinel, .sentinel, .sentinel, .sentinel, .data] true (true, "f66b0d3814bec594fef03c5c78763a80761a8a03d36cb31b13087cbc22ab9597") true
  millEnds_holds (fun _ h => by cases h) (by kernel_rfl) (fun _ h => by cases h) millEnds_row_tie rfl ⟨rfl, rfl⟩ (by kernel_rfl) rfl
  (fun f fn hf hfn => by
   obtain rfl : f = 4 := Option.some.inj ((show Tryz.prog.funcNamed "pasodoble/pasodoblelaw17.MillEnds" = some 4 by kernel_rfl).symm.trans hf) |>.symm
   obtain rfl : fn = Tryz.f4 := (Option.some.inj (Tryz.func4.symm.trans hfn)).symm
   exact ⟨by kernel_rfl, fun j t ht => by
    rw [Tryz.params4] at ht
    have hm : t ∈ ([41, 42, 3] : List Nat) := by simpa using Array.mem_of_getElem? ht
    have hall : (([41, 42, 3] : List Nat).all fun u => !Tryz.prog.wantsStandIn u) = true := by kernel_rfl
    exact (show Tryz.prog.wantsStandIn t = false by simpa using List.all_eq_true.1 hall t hm)⟩)
  (by kernel_rfl)
#print axioms millEnds_card_holds
end
end Go.Proofs.YtenokhokboicnaaGreatDoor
