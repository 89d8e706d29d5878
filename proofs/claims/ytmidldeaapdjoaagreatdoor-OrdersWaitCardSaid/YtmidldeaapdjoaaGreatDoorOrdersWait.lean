/-
OrdersWait returns true for every input and leaves its arguments as they were; and that is the given, tied card.
Conditions: the package variables that the row lists hold what the program's text lays (the card ties them to that text); nothing else is asked of the input.
-/
import Derived.Test.YtmidldeaapdjoaaGreatDoorOrdersWaitFacts
import Derived.Test.YtmidldeaapdjoaaGreatDoorTie
import Derived.Test.YtmidldeaapdjoaaGreatDoorCards
import Derived.SevenTiedAt
set_option linter.unusedSimpArgs false
set_option linter.unusedVariables false
set_option maxRecDepth 100000
namespace Go.Proofs.YtmidldeaapdjoaaGreatDoor
open Go Go.Ev Go.RowKit Go.ChangeShapes Go.WideShapes Go.ChangeAt
section
theorem ordersWait_holds : Rows.OrdersWaitSaid :=
 OpenClaim.holds_of_wide 5 Tryz.f5 rfl rfl rfl rfl rfl rfl rfl ⟨rfl, rfl, rfl, rfl, rfl⟩ rfl rfl rfl rfl rfl ST.named_OrdersWait Tryz.func5 ST.closed_OrdersWait
  (of_decide_eq_true (by kernel_rfl)) (by unfold Func.isWrapper; first | (rw [if_pos (by decide +kernel)]; kernel_rfl) | (rw [if_neg (by decide +kernel)]; exact ⟨rfl, rfl⟩))
  (fun os started H enc _ => ST.lifted os started H enc)
#print axioms ordersWait_holds
end
end Go.Proofs.YtmidldeaapdjoaaGreatDoor
namespace Go.Proofs.YtmidldeaapdjoaaGreatDoor
open Go
section
theorem ordersWait_card_holds : Rows.OrdersWaitCardSaid :=
 Claim7.holds_tied_plain_at .later [] [.data, .data, .data, .sentinel, .sentinel, .sentinel, .sentinel, .sentinel, .sentinel, .sentinel, .sentinel, .sentinel] true (true, "12ceb3cfa6ce9ddf97508104734580e6e7135de21b6ad3d6afdd0337b9614ad8") true
  ordersWait_holds (fun _ h => by cases h) (by kernel_rfl) (fun _ h => by cases h) ordersWait_row_tie rfl ⟨rfl, rfl⟩ (by kernel_rfl) rfl
  (fun f fn hf hfn => by
   obtain rfl : f = 5 := Option.some.inj ((show Tryz.prog.funcNamed "pasodoble/pasodoblelaw15.OrdersWait" = some 5 by kernel_rfl).symm.trans hf) |>.symm
   obtain rfl : fn = Tryz.f5 := (Option.some.inj (Tryz.func5.symm.trans hfn)).symm
   exact ⟨by kernel_rfl, fun j t ht => by
    rw [Tryz.params5] at ht
    have hm : t ∈ ([79] : List Nat) := by simpa using Array.mem_of_getElem? ht
    have hall : (([79] : List Nat).all fun u => !Tryz.prog.wantsStandIn u) = true := by kernel_rfl
    exact (show Tryz.prog.wantsStandIn t = false by simpa using List.all_eq_true.1 hall t hm)⟩)
  (by kernel_rfl)
#print axioms ordersWait_card_holds
end
end Go.Proofs.YtmidldeaapdjoaaGreatDoor
