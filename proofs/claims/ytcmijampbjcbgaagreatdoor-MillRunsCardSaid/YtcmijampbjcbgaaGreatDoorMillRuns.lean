/-
MillRuns returns true for every input and leaves its arguments as they were; and that is the given, tied card.
Conditions: the package variables that the row lists hold what the program's text lays (the card ties them to that text); nothing else is asked of the input.
-/
import Derived.Test.YtcmijampbjcbgaaGreatDoorMillRunsFacts
import Derived.Test.YtcmijampbjcbgaaGreatDoorTie
import Derived.Test.YtcmijampbjcbgaaGreatDoorCards
import Derived.SevenTiedAt
set_option autoImplicit true
set_option relaxedAutoImplicit true
set_option linter.unusedSimpArgs false
set_option linter.unusedVariables false
set_option maxRecDepth 100000
namespace Go.Proofs.YtcmijampbjcbgaaGreatDoor
open Go Go.Ev Go.RowKit Go.ChangeShapes Go.WideShapes Go.ChangeAt
section
theorem millRuns_holds:Rows.MillRunsSaid :=
 OpenClaim.holds_of_wide 3 Tryz.f3 rfl rfl rfl rfl rfl rfl rfl ⟨rfl,rfl,rfl,rfl,rfl⟩ rfl rfl rfl rfl rfl ST.named_MillRuns Tryz.func3 ST.closed_MillRuns
  (of_decide_eq_true (by kernel_rfl)) (by unfold Func.isWrapper; first | (rw[if_pos (by decide +kernel)]; kernel_rfl) | (rw[if_neg (by decide +kernel)]; exact⟨rfl,rfl⟩))
  (fun os started H enc _=>ST.lifted os started H enc)
#print axioms millRuns_holds
end
end Go.Proofs.YtcmijampbjcbgaaGreatDoor
namespace Go.Proofs.YtcmijampbjcbgaaGreatDoor
open Go
section
theorem millRuns_card_holds:Rows.MillRunsCardSaid :=
 Claim7.holds_tied_plain_at .later [] [.data,.data,.data,.sentinel,.sentinel,.sentinel,.sentinel,.sentinel,.sentinel,.sentinel,.sentinel,.sentinel,.sentinel,.sentinel,.sentinel,.sentinel,.sentinel,.sentinel,.sentinel,.sentinel,.sentinel,.data] true (true, "460c97481904c91f572ed787a032cc9605c48ecd1f40a319d0f40d3305b4042a") true
  millRuns_holds (fun _ h=>by cases h) (by kernel_rfl) (fun _ h=>by cases h) millRuns_row_tie rfl ⟨rfl,rfl⟩ (by kernel_rfl) rfl
  (fun f fn hf hfn=>by
   obtain rfl:f=3:=Option.some.inj ((show Tryz.prog.funcNamed "pasodoble/pasodoblelaw17.MillRuns" = some 3 by kernel_rfl).symm.trans hf) |>.symm;obtain rfl:fn=Tryz.f3:=(Option.some.inj (Tryz.func3.symm.trans hfn)).symm;exact⟨by kernel_rfl,fun j t ht=>by
    rw[Tryz.params3]at ht;have hm:t∈([26,27,3]:List Nat):=by simpa using Array.mem_of_getElem? ht
    have hall:(([26,27,3]:List Nat).all fun u=>!Tryz.prog.wantsStandIn u)=true:=by kernel_rfl
    exact(show Tryz.prog.wantsStandIn t=false by simpa using List.all_eq_true.1 hall t hm)⟩)
  (by kernel_rfl)
#print axioms millRuns_card_holds
end
end Go.Proofs.YtcmijampbjcbgaaGreatDoor
