import Derived.Test.YtcabkicjboedaaaDoorR1
import Derived.Test.YtcabkicjboedaaaDoorQB
import Derived.Test.YtcabkicjboedaaaDoorEvS
namespace Go.Proofs.YtcabkicjboedaaaDoor
open Go Go.Ev Go.RowKit Go.ChangeShapes Go.WideShapes Go.ChangeAt
set_option linter.unusedVariables false
set_option maxRecDepth 100000
namespace QC
theorem cArr4 : Tryd.prog.cellsOf 71 = 4 := by kernel_rfl
theorem cComp : Tryd.prog.cellsOf 79 = 7 := by kernel_rfl
theorem cPart : Tryd.prog.cellsOf 73 = 6 := by kernel_rfl
theorem cSchema : Tryd.prog.cellsOf 25 = 2 := by kernel_rfl
theorem cArr1 : Tryd.prog.cellsOf 30 = 1 := by kernel_rfl
theorem cSlC : Tryd.prog.cellsOf 22 = 1 := by kernel_rfl
theorem cSlR : Tryd.prog.cellsOf 23 = 1 := by kernel_rfl

/-- Four numbers, read. -/
theorem four_of {w : World} {n : Nat} {a b c d : Value} (h : Rd Tryd.prog w (n + 2) 71 [a, b, c, d]) : ∃ x y z u : Int, I64 x ∧ I64 y ∧ I64 z ∧ I64 u ∧ a = .int .i64 x ∧ b = .int .i64 y ∧ c = .int .i64 z ∧ d = .int .i64 u := by
  obtain ⟨_, h⟩ := rd_array Tryd.underlying71 h
  simp only [c3] at h
  obtain ⟨t0, f0, g0⟩ := rd_int Tryd.underlying3 (h 0 (by decide))
  obtain ⟨t1, f1, g1⟩ := rd_int Tryd.underlying3 (h 1 (by decide))
  obtain ⟨t2, f2, g2⟩ := rd_int Tryd.underlying3 (h 2 (by decide))
  obtain ⟨t3, f3, g3⟩ := rd_int Tryd.underlying3 (h 3 (by decide))
  simp at f0 f1 f2 f3
  exact ⟨t0, t1, t2, t3, i64_of g0, i64_of g1, i64_of g2, i64_of g3, f0, f1, f2, f3⟩
/-- A component, read. -/
theorem comp_of {w : World} {n : Nat} {cs : List Value} (h : Rd Tryd.prog w (n + 3) 79 cs) : ∃ x : Comp, True ∧ x.cells = cs := by
  obtain ⟨hl, hf⟩ := rd_struct Tryd.underlying79 h
  rw [cComp] at hl
  match cs, hl with
  | [a, b, c, d0, d1, d2, d3], _ =>
    simp only [RdF] at hf
    obtain ⟨h0, h1, h2, h3, _⟩ := hf
    simp only [cStr, c3, cBool, cArr4] at h0 h1 h2 h3
    obtain ⟨s, e0, _⟩ := rd_string Tryd.underlying9 h0
    obtain ⟨i, e1, _⟩ := rd_int Tryd.underlying3 h1
    obtain ⟨z, e2⟩ := rd_bool Tryd.underlying4 h2
    obtain ⟨x0, x1, x2, x3, _, _, _, _, f0, f1, f2, f3⟩ := four_of h3
    simp at e0 e1 e2
    subst e0 e1 e2 f0 f1 f2 f3
    exact ⟨⟨s, i, z, x0, x1, x2, x3⟩, trivial, rfl⟩
/-- A part, read. -/
theorem part_of {w : World} {n : Nat} {cs : List Value} (h : Rd Tryd.prog w (n + 3) 73 cs) : ∃ x : Part, x.ok ∧ x.cells = cs := by
  obtain ⟨hl, hf⟩ := rd_struct Tryd.underlying73 h
  rw [cPart] at hl
  match cs, hl with
  | [a, d0, d1, d2, d3, b], _ =>
    simp only [RdF] at hf
    obtain ⟨h0, h1, h2, _⟩ := hf
    simp only [c3, cArr4] at h0 h1 h2
    obtain ⟨s, e0, g0⟩ := rd_int Tryd.underlying3 h0
    obtain ⟨x0, x1, x2, x3, k0, k1, k2, k3, f0, f1, f2, f3⟩ := four_of h1
    obtain ⟨i, e1, g1⟩ := rd_int Tryd.underlying3 h2
    simp at e0 e1
    subst e0 e1 f0 f1 f2 f3
    exact ⟨⟨s, x0, x1, x2, x3, i⟩, ⟨i64_of g0, k0, k1, k2, k3, i64_of g1⟩, rfl⟩
/-- Parts, read. -/
theorem parts_of {w : World} {n : Nat} {cs : List Value} (h : Rd Tryd.prog w (n + 4) 31 cs) : ∃ (a : Option Addr) (l : List Part) (c : Nat), cs = [.slice a l.length c] ∧ (∀ x ∈ l, x.ok) ∧ l.length ≤ c ∧ c ≤ maxLen ∧ SlIs w a l.length 6 (l.flatMap Part.cells) :=
  slIs_of_rd (F := Part.cells) (sz := 6) (fun _ => rfl) (by omega) Tryd.underlying31 cPart (fun ec h => part_of h) h
/-- A schema, read. -/
theorem schema_of {w : World} {n : Nat} {cs : List Value} (h : Rd Tryd.prog w (n + 5) 25 cs) : ∃ (a : Option Addr) (l : List Comp) (c : Nat) (r : Value), cs = [.slice a l.length c, r] ∧ r.cells = #[r] ∧ SlIs w a l.length 7 (l.flatMap Comp.cells) := by
  obtain ⟨hl, hf⟩ := rd_struct Tryd.underlying25 h
  rw [cSchema] at hl
  match cs, hl with
  | [a, b], _ =>
    simp only [RdF] at hf
    obtain ⟨h0, h1, _⟩ := hf
    simp only [cSlC, cSlR] at h0 h1
    obtain ⟨x, l, c, e, _, _, _, hs⟩ := slIs_of_rd (F := Comp.cells) (sz := 7) (fun _ => rfl) (by omega) Tryd.underlying22 cComp (fun ec h => comp_of h) h0
    simp at e
    have hr : b.cells = #[b] := by
      rcases rd_slice Tryd.underlying23 h1 with e | ⟨x, n, c, e, _⟩ <;> simp at e <;> subst e <;> rfl
    exact ⟨x, l, c, b, by rw [e], hr, hs⟩

theorem lifted (os : Os) (started : os.Started) (H : Type) (enc : TypeId × Value → H) :
    ReturnsInHanded {} Tryd.checked os 3 .any (fun w args => (Rows.queryChecksSpec.pre enc Tryd.prog Tryd.f3 [] false w args ∧ laidMetH Tryd.prog Rows.queryChecksRow.laid w) ∧ sizedMet enc Tryd.prog Tryd.f3 (OpenSpec.ofChange Rows.queryChecksSpec) false w args)
      (Rows.queryChecksSpec.post enc Tryd.prog Tryd.f3 false true false false) := by
  refine returnsInHanded_of_change_and (C := Tryd.checked) (X := fun w _ => laidMetH Tryd.prog Rows.queryChecksRow.laid w) (fun _ _ _ hh h => h.of_heap hh) own started (by kernel_rfl) Tryd.func3
    (ChangeSpec.witness_shaped (enc := enc) (C := Tryd.checked) (os := os) (X := fun w _ => laidMetH Tryd.prog Rows.queryChecksRow.laid w) false (World.doorLaid Tryd.prog 366 os) #[.agg #[.slice none 0 0, .slice none 0 0], .agg #[.int .u32 0, .int .u32 0, .int .u32 0], .agg #[.int .i64 0], .slice none 0 0] 8 rfl (World.shaped_of_RefB (by kernel_rfl) (by kernel_rfl)) (by kernel_rfl) (by kernel_rfl) (by kernel_rfl) (door_met os _)) ?_
  intro W base args ds gs before hval0 hW _ _ hL _
  have hval : ∀ (j : Nat) t v, Tryd.f3.params[j]? = some t → args[j]? = some v → Value.okWide Tryd.prog W .any base t v := hval0
  have hW' := hW
  obtain ⟨p, q, hA0, hV, rfl, hfz, hnd⟩ := hW
  have hA : DataW.TrodAll enc Tryd.prog W 0 (fun _ => true) true Tryd.f3.params.toList args.toList ds p := hA0
  rw [Tryd.params3] at hA hval
  obtain ⟨v0, vs0, d0, ds0, p0, q0, hargs, rfl, rfl, h0, r0⟩ := trodAll_cons hA
  obtain ⟨v1, vs1, d1, ds1, p1, q1, rfl, rfl, rfl, h1, r1⟩ := trodAll_cons r0
  obtain ⟨v2, vs2, d2, ds2, p2, q2, rfl, rfl, rfl, h2, r2⟩ := trodAll_cons r1
  obtain ⟨v3, vs3, d3, ds3, p3, q3, rfl, rfl, rfl, h3, r3⟩ := trodAll_cons r2
  obtain ⟨rfl, rfl, rfl⟩ := trodAll_nil r3
  obtain rfl : args = #[v0, v1, v2, v3] := by cases args; simp_all
  obtain ⟨rfl, rfl⟩ := trodVars_none hV
  have hlt : ∀ x ∈ p0 ++ (p1 ++ (p2 ++ (p3 ++ []))) ++ [], x.block < W.heap.size := fun x hx => hW'.lt x hx
  obtain ⟨cs0, e0, _⟩ := okWide_struct Tryd.underlying25 (hval 0 25 v0 rfl rfl)
  obtain ⟨cs1, e1, _⟩ := okWide_struct Tryd.underlying29 (hval 1 29 v1 rfl rfl)
  have e2 : ∃ cs2, v2 = .agg cs2 := by
    have h := hval 2 30 v2 rfl rfl
    simp only [Value.okWide, Tryd.underlying30] at h
    obtain ⟨cs, h, _⟩ := h
    exact ⟨cs, h⟩
  obtain ⟨cs2, e2⟩ := e2
  obtain ⟨a3, n3, c3', e3⟩ := okWide_slice Tryd.underlying31 (hval 3 31 v3 rfl rfl)
  obtain ⟨a, l, c, r, ex, hr, hs⟩ := schema_of (rd_of_Trod h0 5)
  obtain ⟨f, hf, ef⟩ := filter_of (rd_of_Trod h1 2)
  have h2' := (rd_array Tryd.underlying30 (rd_of_Trod h2 2))
  obtain ⟨hl2, h2'⟩ := h2'
  rw [cArr1] at hl2
  have h20 := h2' 0 (by decide)
  rw [c3] at h20
  obtain ⟨frame, ef2, w2⟩ := rd_int Tryd.underlying3 h20
  have ev2 : v2.cells.toList = [.int .i64 frame] := by
    obtain ⟨u, hu⟩ := List.length_eq_one_iff.1 hl2
    rw [hu] at ef2 ⊢
    simpa using ef2
  obtain ⟨sa, ps, cp, ep, hps, _, _, hsp⟩ := parts_of (rd_of_Trod h3 4)
  obtain rfl : v0 = .agg #[.slice a l.length c, r] := agg_of e0 ex.symm
  obtain rfl : v1 = f.val := agg_of e1 ef
  obtain rfl : v2 = .agg #[.int .i64 frame] := agg_of e2 ev2.symm
  obtain rfl : v3 = .slice sa ps.length cp := by
    subst e3
    simpa [Value.cells] using ep
  obtain ⟨S, hS⟩ := laidE_of hL
  refine (QueryChecks_spec hS l a c r hr hs f hf frame (i64_of w2) ps hps sa cp hsp).2.mono fun e W' he => ?_
  obtain ⟨v, rfl, rfl, hsame⟩ := he
  have bel := hsame.below
  exact ⟨_, rfl, _, _, _, [], _, [], hW', trodAll_mk1 (shut_bool Tryd.underlying4 _),
    trodAll_cons_mk (Below.trod laidOut (by kernel_rfl) (of_decide_eq_true (by kernel_rfl)) h0 bel fun x hx => hlt x (by simp [hx]))
      (trodAll_cons_mk (Below.trod laidOut (by kernel_rfl) (of_decide_eq_true (by kernel_rfl)) h1 bel fun x hx => hlt x (by simp [hx]))
        (trodAll_cons_mk (Below.trod laidOut (by kernel_rfl) (of_decide_eq_true (by kernel_rfl)) h2 bel fun x hx => hlt x (by simp [hx]))
          (trodAll_cons_mk (Below.trod laidOut (by kernel_rfl) (of_decide_eq_true (by kernel_rfl)) h3 bel fun x hx => hlt x (by simp [hx])) trodAll_mk0))), rfl, bel.frame _, fun h => by cases h⟩
end QC
theorem queryChecks_holds : Rows.QueryChecksSaid :=
  OpenClaim.holds_of_wide 3 Tryd.f3 rfl rfl rfl rfl rfl rfl rfl ⟨rfl, rfl, rfl, rfl, rfl⟩ rfl rfl rfl rfl rfl (by kernel_rfl) Tryd.func3 (by kernel_rfl)
    (of_decide_eq_true (by kernel_rfl)) (by unfold Func.isWrapper; first | (rw [if_pos (by decide +kernel)]; kernel_rfl) | (rw [if_neg (by decide +kernel)]; exact ⟨rfl, rfl⟩))
    (fun os started H enc _ => QC.lifted os started H enc)
#print axioms queryChecks_holds
end Go.Proofs.YtcabkicjboedaaaDoor
