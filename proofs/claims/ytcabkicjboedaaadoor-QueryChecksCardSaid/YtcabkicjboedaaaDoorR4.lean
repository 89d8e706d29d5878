/-
QueryChecks returns true for every input and leaves its arguments as they were; and that is the given, tied card.
Conditions: the package variables that the row lists hold what the program's text lays (the card ties them to that text); nothing else is asked of the input.
-/
import Derived.Test.YtcabkicjboedaaaDoorR3
import Derived.Test.YtcabkicjboedaaaDoorTie
import Derived.Test.YtcabkicjboedaaaDoorCards
import Derived.SevenTiedAt
namespace Go.Proofs.YtcabkicjboedaaaDoor
open Go
set_option maxRecDepth 100000

/-- THE TIED CARD OF QueryChecks. -/
theorem queryChecks_card_holds : Rows.QueryChecksCardSaid :=
  Claim7.holds_tied_plain_at .later [] [.sentinel, .sentinel, .sentinel, .sentinel, .sentinel, .sentinel, .sentinel, .sentinel, .sentinel, .sentinel, .sentinel, .sentinel, .sentinel, .sentinel, .sentinel, .sentinel, .sentinel, .sentinel] true (true, "499b16567e00966c6c90c9f0da176cb3b8599253600dca4ba24c3317ac8734d5") true
    queryChecks_holds (fun _ h => by cases h) (by kernel_rfl) (fun _ h => by cases h) queryChecks_row_tie rfl ⟨rfl, rfl⟩ (by kernel_rfl) rfl
    (fun f fn hf hfn => by
      obtain rfl : f = 3 := Option.some.inj ((show Tryd.prog.funcNamed "pasodoble/pasodoblelaw11.QueryChecks" = some 3 by kernel_rfl).symm.trans hf) |>.symm
      obtain rfl : fn = Tryd.f3 := (Option.some.inj (Tryd.func3.symm.trans hfn)).symm
      exact ⟨by kernel_rfl, fun j t ht => by
        rw [Tryd.params3] at ht
        have hm : t ∈ [25, 29, 30, 31] := by simpa using Array.mem_of_getElem? ht
        have hall : ([25, 29, 30, 31].all fun u => !Tryd.prog.wantsStandIn u) = true := by kernel_rfl
        exact (show Tryd.prog.wantsStandIn t = false by simpa using List.all_eq_true.1 hall t hm)⟩)
    (by kernel_rfl)
#print axioms queryChecks_card_holds
end Go.Proofs.YtcabkicjboedaaaDoor
