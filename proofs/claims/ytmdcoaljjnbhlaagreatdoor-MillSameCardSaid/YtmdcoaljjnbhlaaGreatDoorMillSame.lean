/-
MillSame returns true for every input and leaves its arguments as they were; and that is the given, tied card.
Conditions: the package variables that the row lists hold what the program's text lays (the card ties them to that text); nothing else is asked of the input.
-/
import Derived.Test.YtmdcoaljjnbhlaaGreatDoorMillSameFacts
import Derived.Test.YtmdcoaljjnbhlaaGreatDoorTie
import Derived.Test.YtmdcoaljjnbhlaaGreatDoorCards
import Derived.SevenTiedAt
set_option linter.unusedSimpArgs false
set_option linter.unusedVariables false
set_option maxRecDepth 100000
namespace Go.Proofs.YtmdcoaljjnbhlaaGreatDoor
open Go Go.Ev Go.RowKit Go.ChangeShapes Go.WideShapes Go.ChangeAt
section
theorem millSame_holds : Rows.MillSameSaid :=
 OpenClaim.holds_of_wide 4 Tryz.f4 rfl rfl rfl rfl rfl rfl rfl ⟨rfl, rfl, rfl, rfl, rfl⟩ rfl rfl rfl rfl rfl ST.named_MillSame Tryz.func4 ST.closed_MillSame
  (of_decide_eq_true (by kernel_rfl)) (by unfold Func.isWrapper; first | (rw [if_pos (by decide +kernel)]; kernel_rfl) | (rw [if_neg (by decide +kernel)]; exact ⟨rfl, rfl⟩))
  (fun os started H enc _ => ST.lifted os started H enc)
#print axioms millSame_holds
end
end Go.Proofs.YtmdcoaljjnbhlaaGreatDoor
namespace Go.Proofs.YtmdcoaljjnbhlaaGreatDoor
open Go
section
theorem millSame_card_holds : Rows.MillSameCardSaid :=
 Claim7.holds_tied_plain_at .later [] [.data, .data, .data, .sentinel, .sentinel, .sentinel, .sentinel, .sentinel, .sentinel, .sentinel, .sentinel, .sentinel, .sentinel, .sentinel, .sentinel, .sentinel, .data] true (true, "39f12f056cf5f3e47def2dc6f6e09873a7199fd76a53e81bbddb6ea269ea7f7a") true
  millSame_holds (fun _ h => by cases h) (by kernel_rfl) (fun _ h => by cases h) millSame_row_tie rfl ⟨rfl, rfl⟩ (by kernel_rfl) rfl
  (fun f fn hf hfn => by
   obtain rfl : f = 4 := Option.some.inj ((show Tryz.prog.funcNamed "pasodoble/pasodoblelaw17.MillSame" = some 4 by kernel_rfl).symm.trans hf) |>.symm
   obtain rfl : fn = Tryz.f4 := (Option.some.inj (Tryz.func4.symm.trans hfn)).symm
   exact ⟨by kernel_rfl, fun j t ht => by
    rw [Tryz.params4] at ht
    have hm : t ∈ ([26, 27, 3] : List Nat) := by simpa using Array.mem_of_getElem? ht
    have hall : (([26, 27, 3] : List Nat).all fun u => !Tryz.prog.wantsStandIn u) = true := by kernel_rfl
    exact (show Tryz.prog.wantsStandIn t = false by simpa using List.all_eq_true.1 hall t hm)⟩)
  (by kernel_rfl)
#print axioms millSame_card_holds
end
end Go.Proofs.YtmdcoaljjnbhlaaGreatDoor
