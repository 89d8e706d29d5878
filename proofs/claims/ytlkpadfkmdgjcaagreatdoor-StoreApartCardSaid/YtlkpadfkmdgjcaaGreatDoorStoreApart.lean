/-
StoreApart returns true for every input and leaves its arguments as they were; and that is the given, tied card. Conditions: the package variables that the row lists hold what the program's text lays.
-/
import Derived.Test.YtlkpadfkmdgjcaaGreatDoorStoreApartFacts
import Derived.Test.YtlkpadfkmdgjcaaGreatDoorTie
import Derived.Test.YtlkpadfkmdgjcaaGreatDoorCards
import Derived.SevenTiedAt
section
set_option linter.unusedSimpArgs false
set_option linter.unusedVariables false
namespace Go.Proofs.YtlkpadfkmdgjcaaGreatDoor
open Go Go.Ev Go.RowKit Go.ChangeShapes Go.WideShapes Go.ChangeAt
set_option linter.unusedVariables false
set_option maxRecDepth 100000
theorem storeApart_holds : Rows.StoreApartSaid :=
  OpenClaim.holds_of_wide 6 Tryz.f6 rfl rfl rfl rfl rfl rfl rfl ⟨rfl, rfl, rfl, rfl, rfl⟩ rfl rfl rfl rfl rfl ST.named_StoreApart Tryz.func6 ST.closed_StoreApart
    (of_decide_eq_true (by kernel_rfl)) (by unfold Func.isWrapper; first | (rw [if_pos (by decide +kernel)]; kernel_rfl) | (rw [if_neg (by decide +kernel)]; exact ⟨rfl, rfl⟩))
    (fun os started H enc _ => ST.lifted os started H enc)
#print axioms storeApart_holds
end Go.Proofs.YtlkpadfkmdgjcaaGreatDoor
end
section
set_option linter.unusedSimpArgs false
set_option linter.unusedVariables false
namespace Go.Proofs.YtlkpadfkmdgjcaaGreatDoor
open Go
set_option maxRecDepth 100000

/-- THE TIED CARD OF StoreApart. -/
theorem storeApart_card_holds : Rows.StoreApartCardSaid :=
  Claim7.holds_tied_plain_at .later [] [.data, .data, .data, .sentinel, .sentinel, .sentinel, .sentinel, .sentinel, .sentinel, .sentinel, .sentinel] true (true, "68b16e1fe8f73ac8b2c8ac53ac3d0798a9a31e1dc6786c50004935c23e801c10") true
    storeApart_holds (fun _ h => by cases h) (by kernel_rfl) (fun _ h => by cases h) storeApart_row_tie rfl ⟨rfl, rfl⟩ (by kernel_rfl) rfl
    (fun f fn hf hfn => by
      obtain rfl : f = 6 := Option.some.inj ((show Tryz.prog.funcNamed "pasodoble/pasodoblelaw09.StoreApart" = some 6 by kernel_rfl).symm.trans hf) |>.symm
      obtain rfl : fn = Tryz.f6 := (Option.some.inj (Tryz.func6.symm.trans hfn)).symm
      exact ⟨by kernel_rfl, fun j t ht => by
        rw [Tryz.params6] at ht
        have hm : t ∈ ([22, 3, 64] : List Nat) := by simpa using Array.mem_of_getElem? ht
        have hall : (([22, 3, 64] : List Nat).all fun u => !Tryz.prog.wantsStandIn u) = true := by kernel_rfl
        exact (show Tryz.prog.wantsStandIn t = false by simpa using List.all_eq_true.1 hall t hm)⟩)
    (by kernel_rfl)
#print axioms storeApart_card_holds
end Go.Proofs.YtlkpadfkmdgjcaaGreatDoor
end
