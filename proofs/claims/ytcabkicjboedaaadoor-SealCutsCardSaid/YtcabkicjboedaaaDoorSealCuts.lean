/-
SealCuts returns true for every state, number and string and leaves them as they were; and that is the given, tied card.
Conditions: the package variables that the row lists hold what the program's text lays (the card ties them to that text); nothing else is asked of the input.
-/
import Derived.Test.YtcabkicjboedaaaDoorSeal4
import Derived.Test.YtcabkicjboedaaaDoorTie
import Derived.Test.YtcabkicjboedaaaDoorCards
import Derived.SevenTiedAt
section
namespace Go.Proofs.YtcabkicjboedaaaDoor
open Go Go.Ev Go.RowKit Go.ChangeShapes Go.WideShapes Go.ChangeAt
open Go.ChangeMaps (open_string shut_string)
set_option linter.unusedVariables false
set_option maxRecDepth 100000
namespace SC2
theorem i64_of {n : Int} (h : (Lit.int .i64 n).wf = true) : I64 n := by
  simp [Lit.wf, IntKind.min, IntKind.max, IntKind.signed, IntKind.bits] at h
  exact h
theorem c3 : Tryd.prog.cellsOf 3 = 1 := by kernel_rfl
theorem cArr4 : Tryd.prog.cellsOf 71 = 4 := by kernel_rfl
theorem cPart : Tryd.prog.cellsOf 73 = 6 := by kernel_rfl
theorem cBeing : Tryd.prog.cellsOf 85 = 2 := by kernel_rfl
theorem cState : Tryd.prog.cellsOf 55 = 5 := by kernel_rfl
theorem cSlP : Tryd.prog.cellsOf 31 = 1 := by kernel_rfl
theorem cSlB : Tryd.prog.cellsOf 52 = 1 := by kernel_rfl
theorem cSlI : Tryd.prog.cellsOf 53 = 1 := by kernel_rfl
/-- Four numbers, read. -/
theorem four_of {w : World} {n : Nat} {a b c d : Value} (h : Rd Tryd.prog w (n + 2) 71 [a, b, c, d]) : ∃ x y z u : Int, I64 x ∧ I64 y ∧ I64 z ∧ I64 u ∧ a = .int .i64 x ∧ b = .int .i64 y ∧ c = .int .i64 z ∧ d = .int .i64 u := by
  obtain ⟨_, h⟩ := rd_array Tryd.underlying71 h
  simp only [c3] at h
  obtain ⟨t0, f0, g0⟩ := rd_int Tryd.underlying3 (h 0 (by decide))
  obtain ⟨t1, f1, g1⟩ := rd_int Tryd.underlying3 (h 1 (by decide))
  obtain ⟨t2, f2, g2⟩ := rd_int Tryd.underlying3 (h 2 (by decide))
  obtain ⟨t3, f3, g3⟩ := rd_int Tryd.underlying3 (h 3 (by decide))
  simp at f0 f1 f2 f3
  exact ⟨t0, t1, t2, t3, i64_of g0, i64_of g1, i64_of g2, i64_of g3, f0, f1, f2, f3⟩
/-- A part, read. -/
theorem part_of {w : World} {n : Nat} {cs : List Value} (h : Rd Tryd.prog w (n + 3) 73 cs) : ∃ x : Part, x.ok ∧ x.cells = cs := by
  obtain ⟨hl, hf⟩ := rd_struct Tryd.underlying73 h
  rw [cPart] at hl
  match cs, hl with
  | [a, d0, d1, d2, d3, b], _ =>
    simp only [RdF] at hf
    obtain ⟨h0, h1, h2, _⟩ := hf
    simp only [c3, cArr4] at h0 h1 h2
    obtain ⟨s, e0, g0⟩ := rd_int Tryd.underlying3 h0
    obtain ⟨x0, x1, x2, x3, k0, k1, k2, k3, f0, f1, f2, f3⟩ := four_of h1
    obtain ⟨i, e1, g1⟩ := rd_int Tryd.underlying3 h2
    simp at e0 e1
    subst e0 e1 f0 f1 f2 f3
    exact ⟨⟨s, x0, x1, x2, x3, i⟩, ⟨i64_of g0, k0, k1, k2, k3, i64_of g1⟩, rfl⟩
/-- A being, read. -/
theorem being_of {w : World} {n : Nat} {cs : List Value} (h : Rd Tryd.prog w (n + 5) 85 cs) : ∃ x : BV, x.ok w ∧ x.cells = cs := by
  obtain ⟨hl, hf⟩ := rd_struct Tryd.underlying85 h
  rw [cBeing] at hl
  match cs, hl with
  | [a, b], _ =>
    simp only [RdF] at hf
    obtain ⟨h0, h1, _⟩ := hf
    simp only [c3, cSlP] at h0 h1
    obtain ⟨i, e0, g0⟩ := rd_int Tryd.underlying3 h0
    obtain ⟨pa, l, c, e1, hok, _, _, hsl⟩ := slIs_of_rd (F := Part.cells) (sz := 6) (fun _ => rfl) (by omega) Tryd.underlying31 cPart (fun ec h => part_of h) h1
    simp at e0 e1
    subst e0 e1
    exact ⟨⟨i, pa, c, l⟩, ⟨i64_of g0, hok, hsl⟩, rfl⟩
theorem flat_int : ∀ rl : List Int, rl.flatMap (fun z : Int => [intV z]) = rl.map intV
  | [] => rfl
  | x :: rl => by rw [List.flatMap_cons, flat_int rl]; rfl
/-- A state, read. -/
theorem state_of {w : World} {n : Nat} {cs : List Value} (h : Rd Tryd.prog w (n + 7) 55 cs) : ∃ s : SV, s.ok w ∧ s.cells = cs := by
  obtain ⟨hl, hf⟩ := rd_struct Tryd.underlying55 h
  rw [cState] at hl
  match cs, hl with
  | [a, b, c, d, e], _ =>
    simp only [RdF] at hf
    obtain ⟨h0, h1, h2, h3, h4, _⟩ := hf
    simp only [c3, cSlB, cSlI] at h0 h1 h2 h3 h4
    obtain ⟨i, e0, g0⟩ := rd_int Tryd.underlying3 h0
    obtain ⟨j, e1, g1⟩ := rd_int Tryd.underlying3 h1
    obtain ⟨k, e2, g2⟩ := rd_int Tryd.underlying3 h2
    obtain ⟨ba, bl, bc, e3, hbok, _, _, hbsl⟩ := slIs_of_rd (F := BV.cells) (sz := 2) (fun _ => rfl) (by omega) Tryd.underlying52 cBeing (fun ec h => being_of h) h3
    obtain ⟨ra, rl, rc, e4, hrok, _, _, hrsl⟩ := slIs_of_rd (F := fun z : Int => [intV z]) (sz := 1) (ok := I64) (fun _ => rfl) (by omega) Tryd.underlying53 c3 (fun ec h => by
      obtain ⟨z, e, g⟩ := rd_int Tryd.underlying3 h
      exact ⟨z, i64_of g, e.symm⟩) h4
    have hfm := flat_int rl
    rw [hfm] at hrsl
    simp at e0 e1 e2 e3 e4
    subst e0 e1 e2 e3 e4
    exact ⟨⟨i, j, k, ba, bc, bl, ra, rc, rl⟩, ⟨i64_of g0, i64_of g1, i64_of g2, hrok, hbok, hbsl, hrsl⟩, rfl⟩
theorem agg_of {v : Value} {cs1 cs2 : Array Value} (h : v = .agg cs1) (h2 : cs2.toList = v.cells.toList) : v = .agg cs2 := by
  subst h
  congr 1
  exact Array.ext' h2.symm
/-- The door's own heap meets the condition. -/
theorem door_met (os : Os) (args : Array Value) : laidMetH Tryd.prog Rows.sealCutsRow.laid ((World.doorLaid Tryd.prog 366 os).forCall (fun _ _ => 0) ⟨#[], args, []⟩).memory :=
  laidMetH_of_parts3 (fuel := 8) (laidMet_of_run' 8 (by kernel_rfl) (by kernel_rfl)) (by kernel_rfl) (by kernel_rfl)

theorem lifted (os : Os) (started : os.Started) (H : Type) (enc : TypeId × Value → H) :
    ReturnsInHanded {} Tryd.checked os 6 .any (fun w args => (Rows.sealCutsSpec.pre enc Tryd.prog Tryd.f6 [] false w args ∧ laidMetH Tryd.prog Rows.sealCutsRow.laid w) ∧ sizedMet enc Tryd.prog Tryd.f6 (OpenSpec.ofChange Rows.sealCutsSpec) false w args)
      (Rows.sealCutsSpec.post enc Tryd.prog Tryd.f6 false true false false) := by
  refine returnsInHanded_of_change_and (C := Tryd.checked) (X := fun w _ => laidMetH Tryd.prog Rows.sealCutsRow.laid w) (fun _ _ _ hh h => h.of_heap hh) own started (by kernel_rfl) Tryd.func6
    (ChangeSpec.witness_shaped (enc := enc) (C := Tryd.checked) (os := os) (X := fun w _ => laidMetH Tryd.prog Rows.sealCutsRow.laid w) false (World.doorLaid Tryd.prog 366 os) #[.agg #[.int .i64 0, .int .i64 0, .int .i64 0, .slice none 0 0, .slice none 0 0], .int .i64 0, .string ByteArray.empty] 8 rfl (World.shaped_of_RefB (by kernel_rfl) (by kernel_rfl)) (by kernel_rfl) (by kernel_rfl) (by kernel_rfl) (door_met os _)) ?_
  intro W base args ds gs before hval0 hW _ _ hL _
  have hval : ∀ (j : Nat) t v, Tryd.f6.params[j]? = some t → args[j]? = some v → Value.okWide Tryd.prog W .any base t v := hval0
  have hW' := hW
  obtain ⟨p, q, hA0, hV, rfl, hfz, hnd⟩ := hW
  have hA : DataW.TrodAll enc Tryd.prog W 0 (fun _ => true) true Tryd.f6.params.toList args.toList ds p := hA0
  rw [Tryd.params6] at hA hval
  obtain ⟨v0, vs0, d0, ds0, p0, q0, hargs, rfl, rfl, h0, r0⟩ := trodAll_cons hA
  obtain ⟨v1, vs1, d1, ds1, p1, q1, rfl, rfl, rfl, h1, r1⟩ := trodAll_cons r0
  obtain ⟨v2, vs2, d2, ds2, p2, q2, rfl, rfl, rfl, h2, r2⟩ := trodAll_cons r1
  obtain ⟨rfl, rfl, rfl⟩ := trodAll_nil r2
  obtain rfl : args = #[v0, v1, v2] := by cases args; simp_all
  obtain ⟨rfl, rfl⟩ := trodVars_none hV
  have hlt : ∀ x ∈ p0 ++ (p1 ++ (p2 ++ [])) ++ [], x.block < W.heap.size := fun x hx => hW'.lt x hx
  obtain ⟨cs0, e0, _⟩ := okWide_struct Tryd.underlying55 (hval 0 55 v0 rfl rfl)
  obtain ⟨at_, rfl, rfl, rfl, w1⟩ := open_int Tryd.underlying3 (hval 1 3 v1 rfl rfl) h1
  obtain ⟨more, rfl, rfl, rfl, y2⟩ := open_string Tryd.underlying9 (hval 2 9 v2 rfl rfl) h2
  obtain ⟨s, hs, es⟩ := state_of (rd_of_Trod h0 7)
  obtain rfl : v0 = s.val := agg_of e0 es
  obtain ⟨⟨S, hS⟩, hD⟩ := SL.laid_of (W := W) hL
  refine (SealCuts_spec hS hD s hs at_ more).2.mono fun e W' he => ?_
  obtain ⟨v, rfl, rfl, hsame⟩ := he
  have bel := hsame.below
  exact ⟨_, rfl, _, _, _, [], _, [], hW', trodAll_mk1 (shut_bool Tryd.underlying4 _),
    trodAll_cons_mk (Below.trod laidOut (by kernel_rfl) (of_decide_eq_true (by kernel_rfl)) h0 bel fun x hx => hlt x (by simp [hx]))
      (trodAll_cons_mk (shut_int Tryd.underlying3 w1) (trodAll_cons_mk (shut_string Tryd.underlying9 y2) trodAll_mk0)), rfl, bel.frame _, fun h => by cases h⟩
end SC2
theorem sealCuts_holds : Rows.SealCutsSaid :=
  OpenClaim.holds_of_wide 6 Tryd.f6 rfl rfl rfl rfl rfl rfl rfl ⟨rfl, rfl, rfl, rfl, rfl⟩ rfl rfl rfl rfl rfl (by kernel_rfl) Tryd.func6 (by kernel_rfl)
    (of_decide_eq_true (by kernel_rfl)) (by unfold Func.isWrapper; first | (rw [if_pos (by decide +kernel)]; kernel_rfl) | (rw [if_neg (by decide +kernel)]; exact ⟨rfl, rfl⟩))
    (fun os started H enc _ => SC2.lifted os started H enc)
#print axioms sealCuts_holds
end Go.Proofs.YtcabkicjboedaaaDoor
end
section
namespace Go.Proofs.YtcabkicjboedaaaDoor
open Go
set_option maxRecDepth 100000

/-- THE TIED CARD OF SealCuts. -/
theorem sealCuts_card_holds : Rows.SealCutsCardSaid :=
  Claim7.holds_tied_plain_at .later [] [.data, .data, .data, .sentinel, .sentinel, .sentinel, .sentinel] true (true, "499b16567e00966c6c90c9f0da176cb3b8599253600dca4ba24c3317ac8734d5") true
    sealCuts_holds (fun _ h => by cases h) (by kernel_rfl) (fun _ h => by cases h) sealCuts_row_tie rfl ⟨rfl, rfl⟩ (by kernel_rfl) rfl
    (fun f fn hf hfn => by
      obtain rfl : f = 6 := Option.some.inj ((show Tryd.prog.funcNamed "pasodoble/pasodoblelaw22.SealCuts" = some 6 by kernel_rfl).symm.trans hf) |>.symm
      obtain rfl : fn = Tryd.f6 := (Option.some.inj (Tryd.func6.symm.trans hfn)).symm
      exact ⟨by kernel_rfl, fun j t ht => by
        rw [Tryd.params6] at ht
        have hm : t ∈ [55, 3, 9] := by simpa using Array.mem_of_getElem? ht
        have hall : ([55, 3, 9].all fun u => !Tryd.prog.wantsStandIn u) = true := by kernel_rfl
        exact (show Tryd.prog.wantsStandIn t = false by simpa using List.all_eq_true.1 hall t hm)⟩)
    (by kernel_rfl)
#print axioms sealCuts_card_holds
end Go.Proofs.YtcabkicjboedaaaDoor
end
