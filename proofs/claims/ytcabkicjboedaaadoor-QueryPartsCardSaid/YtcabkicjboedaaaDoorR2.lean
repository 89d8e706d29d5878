/-
QueryParts returns true for every input and leaves its arguments as they were; and that is the given, tied card.
Conditions: the package variables that the row lists hold what the program's text lays (the card ties them to that text); nothing else is asked of the input.
-/
import Derived.Test.YtcabkicjboedaaaDoorR1
import Derived.Test.YtcabkicjboedaaaDoorTie
import Derived.Test.YtcabkicjboedaaaDoorCards
import Derived.SevenTiedAt
namespace Go.Proofs.YtcabkicjboedaaaDoor
open Go
set_option maxRecDepth 100000

/-- THE TIED CARD OF QueryParts. -/
theorem queryParts_card_holds : Rows.QueryPartsCardSaid :=
  Claim7.holds_tied_plain_at .later [] [.sentinel, .sentinel, .sentinel, .sentinel, .sentinel, .sentinel, .sentinel, .sentinel, .sentinel, .sentinel, .sentinel, .sentinel, .sentinel, .sentinel, .sentinel, .sentinel, .sentinel, .sentinel] true (true, "499b16567e00966c6c90c9f0da176cb3b8599253600dca4ba24c3317ac8734d5") true
    queryParts_holds (fun _ h => by cases h) (by kernel_rfl) (fun _ h => by cases h) queryParts_row_tie rfl ⟨rfl, rfl⟩ (by kernel_rfl) rfl
    (fun f fn hf hfn => by
      obtain rfl : f = 4 := Option.some.inj ((show Tryd.prog.funcNamed "pasodoble/pasodoblelaw11.QueryParts" = some 4 by kernel_rfl).symm.trans hf) |>.symm
      obtain rfl : fn = Tryd.f4 := (Option.some.inj (Tryd.func4.symm.trans hfn)).symm
      exact ⟨by kernel_rfl, fun j t ht => by
        rw [Tryd.params4] at ht
        have hm : t ∈ [48, 29, 3, 3] := by simpa using Array.mem_of_getElem? ht
        have hall : ([48, 29, 3, 3].all fun u => !Tryd.prog.wantsStandIn u) = true := by kernel_rfl
        exact (show Tryd.prog.wantsStandIn t = false by simpa using List.all_eq_true.1 hall t hm)⟩)
    (by kernel_rfl)
#print axioms queryParts_card_holds
end Go.Proofs.YtcabkicjboedaaaDoor
