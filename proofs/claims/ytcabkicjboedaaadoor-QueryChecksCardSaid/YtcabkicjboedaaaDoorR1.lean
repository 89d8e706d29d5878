import Derived.Test.YtcabkicjboedaaaDoorR0
import Derived.Test.YtcabkicjboedaaaDoorQ7
namespace Go.Proofs.YtcabkicjboedaaaDoor
open Go Go.Ev Go.RowKit Go.ChangeShapes Go.WideShapes Go.ChangeAt
set_option linter.unusedVariables false
set_option maxRecDepth 100000

theorem i64_of {n : Int} (h : (Lit.int .i64 n).wf = true) : I64 n := by
  simp [Lit.wf, IntKind.min, IntKind.max, IntKind.signed, IntKind.bits] at h
  exact h
theorem u32_of_wf {n : Int} (h : (Lit.int .u32 n).wf = true) : 0 ≤ n ∧ n < 4294967296 := by
  simp [Lit.wf, IntKind.min, IntKind.max, IntKind.signed, IntKind.bits] at h
  omega
theorem c3 : Tryd.prog.cellsOf 3 = 1 := by kernel_rfl
theorem cBool : Tryd.prog.cellsOf 4 = 1 := by kernel_rfl
theorem cMask : Tryd.prog.cellsOf 27 = 1 := by kernel_rfl
theorem cFilter : Tryd.prog.cellsOf 29 = 3 := by kernel_rfl
theorem cArr8 : Tryd.prog.cellsOf 46 = 8 := by kernel_rfl
theorem cBeing : Tryd.prog.cellsOf 48 = 10 := by kernel_rfl

/-- A filter, read. -/
theorem filter_of {w : World} {n : Nat} {cs : List Value} (h : Rd Tryd.prog w (n + 2) 29 cs) : ∃ f : Filter, f.ok ∧ f.val.cells.toList = cs := by
  obtain ⟨hl, hf⟩ := rd_struct Tryd.underlying29 h
  rw [cFilter] at hl
  match cs, hl with
  | [a, b, c], _ =>
    simp only [RdF] at hf
    obtain ⟨h0, h1, h2, _⟩ := hf
    simp only [cMask] at h0 h1 h2
    obtain ⟨i, e0, w0⟩ := rd_int Tryd.underlying27 h0
    obtain ⟨j, e1, w1⟩ := rd_int Tryd.underlying27 h1
    obtain ⟨k, e2, w2⟩ := rd_int Tryd.underlying27 h2
    simp at e0 e1 e2
    have w0 := u32_of_wf w0
    have w1 := u32_of_wf w1
    have w2 := u32_of_wf w2
    refine ⟨⟨i.toNat, j.toNat, k.toNat⟩, ⟨by show i.toNat < _; omega, by show j.toNat < _; omega, by show k.toNat < _; omega⟩, ?_⟩
    simp only [Filter.val, msk, Value.cells, Int.toNat_of_nonneg w0.1, Int.toNat_of_nonneg w1.1, Int.toNat_of_nonneg w2.1, e0, e1, e2]

/-- A being of a query, read. -/
theorem being_of {w : World} {n : Nat} {cs : List Value} (h : Rd Tryd.prog w (n + 3) 48 cs) : ∃ x : Being, x.ok ∧ x.val.cells.toList = cs := by
  obtain ⟨hl, hf⟩ := rd_struct Tryd.underlying48 h
  rw [cBeing] at hl
  match cs, hl with
  | [a, c0, c1, c2, c3', c4, c5, c6, c7, b], _ =>
    simp only [RdF] at hf
    obtain ⟨h0, h1, h2, _⟩ := hf
    simp only [cMask, cBool, cArr8] at h0 h1 h2
    obtain ⟨i, e0, w0⟩ := rd_int Tryd.underlying27 h0
    obtain ⟨z, e2⟩ := rd_bool Tryd.underlying4 h2
    obtain ⟨_, h1⟩ := rd_array Tryd.underlying46 h1
    simp only [c3] at h1
    obtain ⟨t0, f0, g0⟩ := rd_int Tryd.underlying3 (h1 0 (by decide))
    obtain ⟨t1, f1, g1⟩ := rd_int Tryd.underlying3 (h1 1 (by decide))
    obtain ⟨t2, f2, g2⟩ := rd_int Tryd.underlying3 (h1 2 (by decide))
    obtain ⟨t3, f3, g3⟩ := rd_int Tryd.underlying3 (h1 3 (by decide))
    obtain ⟨t4, f4, g4⟩ := rd_int Tryd.underlying3 (h1 4 (by decide))
    obtain ⟨t5, f5, g5⟩ := rd_int Tryd.underlying3 (h1 5 (by decide))
    obtain ⟨t6, f6, g6⟩ := rd_int Tryd.underlying3 (h1 6 (by decide))
    obtain ⟨t7, f7, g7⟩ := rd_int Tryd.underlying3 (h1 7 (by decide))
    simp at e0 e2 f0 f1 f2 f3 f4 f5 f6 f7
    have w0 := u32_of_wf w0
    refine ⟨⟨i.toNat, [t0, t1, t2, t3, t4, t5, t6, t7], z⟩, ⟨by show i.toNat < _; omega, rfl, ?_⟩, ?_⟩
    · intro t ht
      simp only [List.mem_cons, List.not_mem_nil, or_false] at ht
      rcases ht with rfl | rfl | rfl | rfl | rfl | rfl | rfl | rfl
      · exact i64_of g0
      · exact i64_of g1
      · exact i64_of g2
      · exact i64_of g3
      · exact i64_of g4
      · exact i64_of g5
      · exact i64_of g6
      · exact i64_of g7
    · simp [Being.val, msk, Value.cells, Int.toNat_of_nonneg w0.1, e0, e2, f0, f1, f2, f3, f4, f5, f6, f7]
theorem agg_of {v : Value} {cs1 cs2 : Array Value} (h : v = .agg cs1) (h2 : cs2.toList = v.cells.toList) : v = .agg cs2 := by
  subst h
  congr 1
  exact Array.ext' h2.symm

/-- The door's own heap meets the condition. -/
theorem door_met (os : Os) (args : Array Value) : laidMetH Tryd.prog Rows.queryPartsRow.laid ((World.doorLaid Tryd.prog 366 os).forCall (fun _ _ => 0) ⟨#[], args, []⟩).memory :=
  laidMetH_of_parts3 (fuel := 8) (laidMet_of_run' 8 (by kernel_rfl) (by kernel_rfl)) (by kernel_rfl) (by kernel_rfl)

theorem lifted (os : Os) (started : os.Started) (H : Type) (enc : TypeId × Value → H) :
    ReturnsInHanded {} Tryd.checked os 4 .any (fun w args => (Rows.queryPartsSpec.pre enc Tryd.prog Tryd.f4 [] false w args ∧ laidMetH Tryd.prog Rows.queryPartsRow.laid w) ∧ sizedMet enc Tryd.prog Tryd.f4 (OpenSpec.ofChange Rows.queryPartsSpec) false w args)
      (Rows.queryPartsSpec.post enc Tryd.prog Tryd.f4 false true false false) := by
  refine returnsInHanded_of_change_and (C := Tryd.checked) (X := fun w _ => laidMetH Tryd.prog Rows.queryPartsRow.laid w) (fun _ _ _ hh h => h.of_heap hh) own started (by kernel_rfl) Tryd.func4
    (ChangeSpec.witness_shaped (enc := enc) (C := Tryd.checked) (os := os) (X := fun w _ => laidMetH Tryd.prog Rows.queryPartsRow.laid w) false (World.doorLaid Tryd.prog 366 os) #[.agg #[.int .u32 0, .int .i64 0, .int .i64 0, .int .i64 0, .int .i64 0, .int .i64 0, .int .i64 0, .int .i64 0, .int .i64 0, .bool false], .agg #[.int .u32 0, .int .u32 0, .int .u32 0], .int .i64 0, .int .i64 0] 8 rfl (World.shaped_of_RefB (by kernel_rfl) (by kernel_rfl)) (by kernel_rfl) (by kernel_rfl) (by kernel_rfl) (door_met os _)) ?_
  intro W base args ds gs before hval0 hW _ _ hL _
  have hval : ∀ (j : Nat) t v, Tryd.f4.params[j]? = some t → args[j]? = some v → Value.okWide Tryd.prog W .any base t v := hval0
  have hW' := hW
  obtain ⟨p, q, hA0, hV, rfl, hfz, hnd⟩ := hW
  have hA : DataW.TrodAll enc Tryd.prog W 0 (fun _ => true) true Tryd.f4.params.toList args.toList ds p := hA0
  rw [Tryd.params4] at hA hval
  obtain ⟨v0, vs0, d0, ds0, p0, q0, hargs, rfl, rfl, h0, r0⟩ := trodAll_cons hA
  obtain ⟨v1, vs1, d1, ds1, p1, q1, rfl, rfl, rfl, h1, r1⟩ := trodAll_cons r0
  obtain ⟨v2, vs2, d2, ds2, p2, q2, rfl, rfl, rfl, h2, r2⟩ := trodAll_cons r1
  obtain ⟨v3, vs3, d3, ds3, p3, q3, rfl, rfl, rfl, h3, r3⟩ := trodAll_cons r2
  obtain ⟨rfl, rfl, rfl⟩ := trodAll_nil r3
  obtain rfl : args = #[v0, v1, v2, v3] := by cases args; simp_all
  obtain ⟨rfl, rfl⟩ := trodVars_none hV
  have hlt : ∀ x ∈ p0 ++ (p1 ++ (p2 ++ (p3 ++ []))) ++ [], x.block < W.heap.size := fun x hx => hW'.lt x hx
  obtain ⟨cs0, e0, _⟩ := okWide_struct Tryd.underlying48 (hval 0 48 v0 rfl rfl)
  obtain ⟨cs1, e1, _⟩ := okWide_struct Tryd.underlying29 (hval 1 29 v1 rfl rfl)
  obtain ⟨comp, rfl, rfl, rfl, w2⟩ := open_int Tryd.underlying3 (hval 2 3 v2 rfl rfl) h2
  obtain ⟨frame, rfl, rfl, rfl, w3⟩ := open_int Tryd.underlying3 (hval 3 3 v3 rfl rfl) h3
  obtain ⟨x, hx, ex⟩ := being_of (rd_of_Trod h0 3)
  obtain ⟨f, hf, ef⟩ := filter_of (rd_of_Trod h1 2)
  obtain rfl : v0 = x.val := agg_of e0 ex
  obtain rfl : v1 = f.val := agg_of e1 ef
  obtain ⟨S, hS⟩ := laidE_of hL
  refine (QueryParts_spec hS x hx f hf comp frame (i64_of w3)).2.mono fun e W' he => ?_
  obtain ⟨v, rfl, rfl, hsame⟩ := he
  have bel := hsame.below
  exact ⟨_, rfl, _, _, _, [], _, [], hW', trodAll_mk1 (shut_bool Tryd.underlying4 _),
    trodAll_cons_mk (Below.trod laidOut (by kernel_rfl) (of_decide_eq_true (by kernel_rfl)) h0 bel fun x hx => hlt x (by simp [hx]))
      (trodAll_cons_mk (Below.trod laidOut (by kernel_rfl) (of_decide_eq_true (by kernel_rfl)) h1 bel fun x hx => hlt x (by simp [hx]))
        (trodAll_cons_mk (shut_int Tryd.underlying3 w2) (trodAll_cons_mk (shut_int Tryd.underlying3 w3) trodAll_mk0))), rfl, bel.frame _, fun h => by cases h⟩

theorem queryParts_holds : Rows.QueryPartsSaid :=
  OpenClaim.holds_of_wide 4 Tryd.f4 rfl rfl rfl rfl rfl rfl rfl ⟨rfl, rfl, rfl, rfl, rfl⟩ rfl rfl rfl rfl rfl (by kernel_rfl) Tryd.func4 (by kernel_rfl)
    (of_decide_eq_true (by kernel_rfl)) (by unfold Func.isWrapper; first | (rw [if_pos (by decide +kernel)]; kernel_rfl) | (rw [if_neg (by decide +kernel)]; exact ⟨rfl, rfl⟩))
    (fun os started H enc _ => lifted os started H enc)
#print axioms queryParts_holds
end Go.Proofs.YtcabkicjboedaaaDoor
