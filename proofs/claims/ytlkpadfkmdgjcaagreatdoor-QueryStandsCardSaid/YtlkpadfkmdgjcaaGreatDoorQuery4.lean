/-
Lemmas for the statements of this seat: no statement of the seat is proved in this part (4 of 6); the conditions stand in each theorem.
-/
import Derived.Test.YtlkpadfkmdgjcaaGreatDoorQuery3
import Derived.Lib.SliceRun
import Derived.Test.YtlkpadfkmdgjcaaGreatDoorProg
import Derived.Lib.ConvBytes
section
set_option linter.unusedSimpArgs false
set_option linter.unusedVariables false
namespace Go.Proofs.YtlkpadfkmdgjcaaGreatDoor
open Go Go.Ev
set_option linter.unusedVariables false
set_option linter.unusedSimpArgs false
set_option maxRecDepth 100000
attribute [local irreducible] kO kB kStr kInt kN kG kIf kfld kld kldN kst knew kmap kbld kbldS kext kcnv klenStr klen kcap kprt kprtN kbool kint kstr keq kun ksl kix kiv kta kmk kmm ksem ksemU kextf kcallV kcallM kcall kL

/-! ### Parts that fit, and gathered -/
def FitsP (cs : List Comp) (q : Part) : Prop := ∃ c : Nat, q.comp = c ∧ c < cs.length ∧ q.clean (wdF cs c)
theorem clean_get {q : Part} {wd j : Nat} (h : q.clean wd) (h1 : 1 ≤ wd) (hj : j < 4 - wd) : q.cells[1 + wd + j]? = some (.int .i64 0) := by
  unfold Part.clean Part.vals at h
  have hw' : wd = 1 ∨ wd = 2 ∨ wd = 3 := by omega
  have hj' : j = 0 ∨ j = 1 ∨ j = 2 := by omega
  rcases hw' with rfl | rfl | rfl <;> rcases hj' with rfl | rfl | rfl <;> first | omega | (simp at h; simp [Part.cells, h])
theorem sFits_spec {o : Lab} {w : World} {b : Nat} {p : Ptrs} {S : SM} (h : StoreP o w b p S) (q : Part) (hq : FitsP S.cs q) :
    Meets Tryz.prog 82 #[ptrV b, .agg q.cells.toArray] w fun v w' => v = .bool true ∧ Same w w' := by
  obtain ⟨c, hqc, hcl, hcln⟩ := hq
  obtain ⟨hw1, hw2, hw3⟩ := wdF_of h.good hcl
  have hg := h.good.1
  rw [ptrV]
  refine f82_ok ?_
  unfold f82
  refine knew_of fun w2 hm2 hs2 hb2 => ?_
  have hb2 : blk w2.drew w.heap.size = some (.cells q.cells.toArray 49) := hb2
  have m2 := hm2.drew
  generalize w2.drew = wa at *
  have hba := m2.get h.here (fun h => h)
  refine kfld_of ?_
  refine kld_of (v := .int .i64 c) hb2 (by simp [Part.cells, hqc]) ?_
  refine kG_of rfl ?_
  refine lss_at ?_
  refine kB_at ?_
  refine kIf_T (notT (decF (by omega))) ?_
  refine kfld_of ?_
  refine kld_of (v := .int .i64 c) hb2 (by simp [Part.cells, hqc]) ?_
  repeat (first | refine kN_at ?_ | refine kB_at ?_ | refine kfld_of ?_ | refine kext_at rfl ?_ | refine kld_at hba rfl ?_ | refine kldN_at hba rfl (by omega) ?_ | refine kG_of (by first | exact rfl | omega) ?_ | refine klen_at ?_ | refine eql_at ?_ | refine neq_at ?_ | refine lss_at ?_ | refine leq_at ?_ | refine gtr_at ?_ | refine geq_at ?_ | refine add_at (by omega) (by omega) ?_ | refine sub_at (by omega) (by omega) ?_ | refine not_at ?_ | refine kO_at ?_ | refine kprt_at rfl ?_ | refine kprtN_at rfl ?_ | refine kcap_at ?_ | refine klenStr_at ?_ | refine kN_iat ?_ | refine kN_fat ?_ | refine kIf_T (by first | exact rfl | exact decT (by omega) | exact notT (decF (by omega))) ?_ | refine kIf_F (by first | exact rfl | exact decF (by omega) | exact notF (decT (by omega))) ?_)
  have hb2 : blk wa.drew w.heap.size = _ := hb2
  have hba : blk wa.drew b = _ := hba
  have m2 := m2.drew
  generalize wa.drew = wb at *
  refine kld_of (v := .int .i64 c) hb2 (by simp [Part.cells, hqc]) ?_
  refine kG_of rfl ?_
  refine kixfld_of (F := Comp.cells) (fun _ => rfl) (h.sch.same m2) hcl (v := .int .i64 (wdF S.cs c)) (congrArg (fun z : Int => some (Value.int .i64 z)) hw1) rfl ?_
  refine kG_of rfl ?_
  refine ksl_arr_lo hw3 ?_
  repeat (first | refine kN_at ?_ | refine kB_at ?_ | refine kfld_of ?_ | refine kext_at rfl ?_ | refine kG_of (by first | exact rfl | omega) ?_ | refine klen_at ?_ | refine eql_at ?_ | refine neq_at ?_ | refine lss_at ?_ | refine leq_at ?_ | refine gtr_at ?_ | refine geq_at ?_ | refine add_at (by omega) (by omega) ?_ | refine sub_at (by omega) (by omega) ?_ | refine not_at ?_ | refine kO_at ?_ | refine kprt_at rfl ?_ | refine kprtN_at rfl ?_ | refine kcap_at ?_ | refine klenStr_at ?_ | refine kN_iat ?_ | refine kN_fat ?_ | refine kIf_T (by first | exact rfl | exact decT (by omega) | exact notT (decF (by omega))) ?_ | refine kIf_F (by first | exact rfl | exact decF (by omega) | exact notF (decT (by omega))) ?_)
  refine kL1_of (4 - wdF S.cs c) (fun j x wr => x = .int .i64 j ∧ Same wb wr) ⟨lI1_0 ⟨rfl, Mod.refl _ _⟩, fun x wr hx => ?_⟩
  obtain ⟨j, hj, ⟨rfl, hm⟩, hJ⟩ := lI1_step hx
  unfold f82_2
  refine lss_at ?_
  refine kB_at ?_
  refine kIf_dec (fun hlt => ?_) (fun hge => ?_)
  · have hlt : j < 4 - wdF S.cs c := by omega
    unfold f82_3
    rw [kix_slice]
    refine kG_of (by omega) ?_
    rw [add_mk, if_neg (by omega)]
    refine kld_of (v := .int .i64 0) (hm.get hb2 (fun h => h)) ?_ ?_
    · have := clean_get hcln hw2 hlt
      simpa using this
    repeat (first | refine kN_at ?_ | refine kB_at ?_ | refine kfld_of ?_ | refine kext_at rfl ?_ | refine kG_of (by first | exact rfl | omega) ?_ | refine klen_at ?_ | refine eql_at ?_ | refine neq_at ?_ | refine lss_at ?_ | refine leq_at ?_ | refine gtr_at ?_ | refine geq_at ?_ | refine add_at (by omega) (by omega) ?_ | refine sub_at (by omega) (by omega) ?_ | refine not_at ?_ | refine kO_at ?_ | refine kprt_at rfl ?_ | refine kprtN_at rfl ?_ | refine kcap_at ?_ | refine klenStr_at ?_ | refine kN_iat ?_ | refine kN_fat ?_ | refine kIf_T (by first | exact rfl | exact decT (by omega) | exact notT (decF (by omega))) ?_ | refine kIf_F (by first | exact rfl | exact decF (by omega) | exact notF (decT (by omega))) ?_)
    rw [cast_succ]
    exact hJ _ _ hlt ⟨rfl, hm⟩
  · unfold f82_5
    exact ⟨rfl, m2.trans hm⟩
theorem has_spec (m : Nat) (n : Int) (hm : m < 4294967296) (h1 : -9223372036854775808 ≤ n) (h2 : n ≤ 9223372036854775807) (w : World) : Meets Tryz.prog 19 #[msk m, .int .i64 n] w fun v w' => v = .bool (decide (m &&& bitF n ≠ 0)) ∧ w' = w := by
  refine f19_ok ?_
  unfold f19
  refine kcall_of (bit_spec n h1 h2 w) ?_
  rintro v w' ⟨rfl, rfl⟩
  rw [msk, msk, kint_and, u32_and hm (bitF_lt n), kint_neq]
  refine ⟨?_, rfl⟩
  congr 1
  simp
/-- The set of parts. -/
def maskP (L : List Part) : Nat := L.foldl (fun m q => m ||| bitF q.comp) 0
theorem maskP_snoc (L : List Part) (q : Part) : maskP (L ++ [q]) = maskP L ||| bitF q.comp := by simp [maskP]
theorem mask_fold (cs : List Comp) (hcs : cs.length ≤ 16) (c : Nat) : ∀ (L : List Part) (m : Nat), (∀ q ∈ L, FitsP cs q) → ((L.foldl (fun m q => m ||| bitF q.comp) m).testBit c = true ↔ m.testBit c = true ∨ ∃ q ∈ L, q.comp = (c : Int))
  | [], m, _ => by simp
  | q :: L, m, h => by
    rw [List.foldl_cons, mask_fold cs hcs c L _ (fun x hx => h x (by simp [hx])), Nat.testBit_or, Bool.or_eq_true]
    obtain ⟨d, e, hd, _⟩ := h q (by simp)
    have hb : (bitF q.comp).testBit c = true ↔ q.comp = (c : Int) := by
      rw [e, bitF_nat (by omega), Nat.testBit_two_pow]
      simp only [decide_eq_true_eq]
      omega
    rw [hb]
    constructor
    · rintro ((h1 | h1) | ⟨x, hx, e⟩)
      · exact .inl h1
      · exact .inr ⟨q, by simp, h1⟩
      · exact .inr ⟨x, by simp [hx], e⟩
    · rintro (h1 | ⟨x, hx, ex⟩)
      · exact .inl (.inl h1)
      · rcases List.mem_cons.1 hx with rfl | hx
        · exact .inl (.inr ex)
        · exact .inr ⟨x, hx, ex⟩
theorem maskP_bit (cs : List Comp) (hcs : cs.length ≤ 16) (L : List Part) (h : ∀ q ∈ L, FitsP cs q) (c : Nat) : (maskP L).testBit c = true ↔ ∃ q ∈ L, q.comp = (c : Int) := by
  unfold maskP
  rw [mask_fold cs hcs c L 0 h]
  simp
theorem maskP_lt (cs : List Comp) (hcs : cs.length ≤ 16) (L : List Part) (h : ∀ q ∈ L, FitsP cs q) : maskP L < 2 ^ cs.length := by
  apply Nat.lt_pow_two_of_testBit
  intro i hi
  cases hb : (maskP L).testBit i with
  | false => rfl
  | true =>
    obtain ⟨q, hq, e⟩ := (maskP_bit cs hcs L h i).1 hb
    obtain ⟨d, e2, hd, _⟩ := h q hq
    omega
theorem apPart : appT Tryz.prog 40 6 48 = true := by kernel_rfl
theorem slPart : isSlT Tryz.prog 40 = true := by kernel_rfl
theorem slPart_is : ∃ e, Tryz.prog.underlying 40 = some (.slice e) := slT_of (by kernel_rfl)
theorem ones_parts : ∀ L : List Part, oneCells (L.flatMap Part.cells) = true
  | [] => rfl
  | q :: L => by
    rw [List.flatMap_cons]
    show oneCells (.int .i64 q.comp :: .int .i64 q.v0 :: .int .i64 q.v1 :: .int .i64 q.v2 :: .int .i64 q.v3 :: .int .i64 q.tick :: L.flatMap Part.cells) = true
    simp only [oneCells, ones_parts L]; rfl
theorem cloneP_spec {w : World} {a : Option Addr} {L : List Part} {c : Nat} (hs : SlIs w a L.length 6 (L.flatMap Part.cells)) (hn : L.length ≤ 1000000) :
    Meets Tryz.prog 139 #[.slice a L.length c] w fun v w' => Own w' v 6 (L.flatMap Part.cells) ∧ Same w w' ∧ (∀ k, vblk v k → w.heap.size ≤ k) := by
  have hfl := flat_len Part.cells 6 (fun _ => rfl) L
  refine f139_ok ?_
  unfold f139
  rw [keq_sl_nil slPart]
  cases a with
  | none =>
    have hL : L.length = 0 := by rcases hs.2 with h | ⟨_, _, _, _, _, h, _⟩; exact h; cases h
    have : L = [] := List.eq_nil_of_length_eq_zero hL
    subst this
    repeat (first | refine kN_at ?_ | refine kB_at ?_ | refine kfld_of ?_ | refine kext_at rfl ?_ | refine kG_of (by first | exact rfl | omega) ?_ | refine klen_at ?_ | refine eql_at ?_ | refine neq_at ?_ | refine lss_at ?_ | refine leq_at ?_ | refine gtr_at ?_ | refine geq_at ?_ | refine add_at (by omega) (by omega) ?_ | refine sub_at (by omega) (by omega) ?_ | refine not_at ?_ | refine kO_at ?_ | refine kprt_at rfl ?_ | refine kprtN_at rfl ?_ | refine kcap_at ?_ | refine klenStr_at ?_ | refine kN_iat ?_ | refine kN_fat ?_ | refine kIf_T (by first | exact rfl | exact decT (by omega) | exact notT (decF (by omega))) ?_ | refine kIf_F (by first | exact rfl | exact decF (by omega) | exact notF (decT (by omega))) ?_)
    exact ⟨Own.nil _ _, Mod.refl _ _, fun b hb => by obtain ⟨_, _, _, h⟩ := hb; cases h⟩
  | some a =>
    repeat (first | refine kN_at ?_ | refine kB_at ?_ | refine kfld_of ?_ | refine kext_at rfl ?_ | refine kG_of (by first | exact rfl | omega) ?_ | refine klen_at ?_ | refine eql_at ?_ | refine neq_at ?_ | refine lss_at ?_ | refine leq_at ?_ | refine gtr_at ?_ | refine geq_at ?_ | refine add_at (by omega) (by omega) ?_ | refine sub_at (by omega) (by omega) ?_ | refine not_at ?_ | refine kO_at ?_ | refine kprt_at rfl ?_ | refine kprtN_at rfl ?_ | refine kcap_at ?_ | refine klenStr_at ?_ | refine kN_iat ?_ | refine kN_fat ?_ | refine kIf_T (by first | exact rfl | exact decT (by omega) | exact notT (decF (by omega))) ?_ | refine kIf_F (by first | exact rfl | exact decF (by omega) | exact notF (decT (by omega))) ?_)
    unfold f139_0
    refine kbldS_of (cs := []) rfl fun w5 h5 hs5 hb5 => ?_
    refine ksem_append apPart (by omega) (vs := []) (Own.blk hb5 (n := 0) (by simp) (by simp [maxLen])) (Src.ofSlIs (hk := slPart_is.choose_spec) c (hs.same h5) (ones_parts L)) (by simp [hfl]; omega) (by simp [hfl]; omega) ?_
    intro v' w' ho hm hf
    refine ⟨by simpa using ho, Mod.after h5 hm (fun b hb => by rw [vblk_new hb]; exact Nat.le_refl _), fun b hb => ?_⟩
    rcases hf b hb with h | h
    · rw [vblk_new h]; exact Nat.le_refl _
    · omega
end Go.Proofs.YtlkpadfkmdgjcaaGreatDoor
end
section
set_option linter.unusedSimpArgs false
set_option linter.unusedVariables false
namespace Go.Proofs.YtlkpadfkmdgjcaaGreatDoor
open Go Go.Ev
set_option linter.unusedVariables false
set_option linter.unusedSimpArgs false
set_option maxRecDepth 100000
attribute [local irreducible] kO kB kStr kInt kN kG kIf kfld kld kldN kst knew kmap kbld kbldS kext kcnv klenStr klen kcap kprt kprtN kbool kint kstr keq kun ksl kix kiv kta kmk kmm ksem ksemU kextf kcallV kcallM kcall kL

/-! ### Parts, gathered -/
def NoTwice (L : List Part) : Prop := (L.map (·.comp)).Nodup
theorem sGathered_spec {o : Lab} {w : World} {b : Nat} {p : Ptrs} {S : SM} (h : StoreP o w b p S) {L : List Part} {a : Option Addr} {c : Nat} (hs : SlIs w a L.length 6 (L.flatMap Part.cells)) (hn : L.length ≤ 1000000) (hf : ∀ q ∈ L, FitsP S.cs q) (hnt : NoTwice L) :
    Meets Tryz.prog 74 #[ptrV b, .slice a L.length c] w fun v w' => ∃ (sv : Value) (L' : List Part), v = .tuple #[msk (maskP L), sv, .nilIface] ∧ L'.Perm L ∧ L'.Pairwise (fun x y => x.comp ≤ y.comp) ∧ Own w' sv 6 (L'.flatMap Part.cells) ∧ Same w w' ∧ ∀ k, vblk sv k → w.heap.size ≤ k := by
  have hg := h.good.1
  have hp16 : 2 ^ S.cs.length ≤ 2 ^ 16 := Nat.pow_le_pow_right (by omega) hg
  refine f74_ok ?_
  unfold f74
  refine klen_at ?_
  refine kL3_of L.length (fun j x y z wr => z = .int .i64 j ∧ x = msk (maskP (L.take j)) ∧ y = .bool false ∧ Same w wr) ⟨lI3_0 ⟨rfl, rfl, rfl, Mod.refl _ _⟩, fun x y z wr hx => ?_⟩
  obtain ⟨j, hj, ⟨rfl, rfl, rfl, hm⟩, hJ⟩ := lI3_step hx
  unfold f74_0
  refine lss_at ?_
  refine kB_at ?_
  refine kIf_dec (fun hlt => ?_) (fun hge => ?_)
  · have hlt : j < L.length := by omega
    have hfj := hf _ (List.getElem_mem hlt)
    obtain ⟨d, e1, e2, e3⟩ := id hfj
    have hft : ∀ q ∈ L.take j, FitsP S.cs q := fun q hq => hf q (List.mem_of_mem_take hq)
    have hml := maskP_lt S.cs hg _ hft
    have hsn : maskP (L.take (j + 1)) = maskP (L.take j) ||| bitF L[j].comp := by
      rw [List.take_add_one, List.getElem?_eq_getElem hlt]; exact maskP_snoc _ _
    unfold f74_1
    refine kixldN_of (F := Part.cells) (sz := 6) (fun _ => rfl) (by omega) (hs.same hm) hlt rfl ?_
    refine knew_of fun w7 h7 hs7 hb7 => ?_
    refine kst_of (vs := (L[j]).cells) hb7 rfl rfl rfl (by simp) (by simp [Part.cells]) fun w8 h8 hs8 hb8 => ?_
    have hb8 : blk w8 wr.heap.size = some (.cells (L[j]).cells.toArray 49) := hb8
    have m8 : Same wr w8 := h7.trans' (h8.mono fun k _ e => .inr (by omega))
    repeat (first | refine kN_at ?_ | refine kB_at ?_ | refine kfld_of ?_ | refine kext_at rfl ?_ | refine kld_at hb8 rfl ?_ | refine kldN_at hb8 rfl (by omega) ?_ | refine kG_of (by first | exact rfl | omega) ?_ | refine klen_at ?_ | refine eql_at ?_ | refine neq_at ?_ | refine lss_at ?_ | refine leq_at ?_ | refine gtr_at ?_ | refine geq_at ?_ | refine add_at (by omega) (by omega) ?_ | refine sub_at (by omega) (by omega) ?_ | refine not_at ?_ | refine kO_at ?_ | refine kprt_at rfl ?_ | refine kprtN_at rfl ?_ | refine kcap_at ?_ | refine klenStr_at ?_ | refine kN_iat ?_ | refine kN_fat ?_ | refine kIf_T (by first | exact rfl | exact decT (by omega) | exact notT (decF (by omega))) ?_ | refine kIf_F (by first | exact rfl | exact decF (by omega) | exact notF (decT (by omega))) ?_)
    refine kcall_of (sFits_spec (h.same (hm.trans m8)) L[j] hfj) ?_
    rintro v w11 ⟨rfl, h11⟩
    have hb11 := h11.get hb8 (fun h => h)
    have m11 := m8.trans h11
    repeat (first | refine kN_at ?_ | refine kB_at ?_ | refine kfld_of ?_ | refine kext_at rfl ?_ | refine kG_of (by first | exact rfl | omega) ?_ | refine klen_at ?_ | refine eql_at ?_ | refine neq_at ?_ | refine lss_at ?_ | refine leq_at ?_ | refine gtr_at ?_ | refine geq_at ?_ | refine add_at (by omega) (by omega) ?_ | refine sub_at (by omega) (by omega) ?_ | refine not_at ?_ | refine kO_at ?_ | refine kprt_at rfl ?_ | refine kprtN_at rfl ?_ | refine kcap_at ?_ | refine klenStr_at ?_ | refine kN_iat ?_ | refine kN_fat ?_ | refine kIf_T (by first | exact rfl | exact decT (by omega) | exact notT (decF (by omega))) ?_ | refine kIf_F (by first | exact rfl | exact decF (by omega) | exact notF (decT (by omega))) ?_)
    refine kld_of (v := .int .i64 d) hb11 (by simp [Part.cells, e1]) ?_
    refine kcall_of (has_spec (maskP (L.take j)) (d : Int) (by omega) (by omega) (by omega) w11) ?_
    rintro v w20 ⟨rfl, rfl⟩
    have hno : maskP (L.take j) &&& bitF (d : Int) = 0 := by
      apply Nat.eq_of_testBit_eq
      intro i
      rw [Nat.testBit_and, Nat.zero_testBit, bitF_nat (by omega), Nat.testBit_two_pow]
      by_cases hdi : d = i
      · subst hdi
        have : (maskP (L.take j)).testBit d = false := by
          cases hb : (maskP (L.take j)).testBit d with
          | false => rfl
          | true =>
            obtain ⟨q, hq, e⟩ := (maskP_bit S.cs hg _ hft d).1 hb
            obtain ⟨k, hk, rfl⟩ := List.mem_iff_getElem.1 hq
            have hkj : k < j := by simp at hk; omega
            rw [List.getElem_take] at e
            have hp := (List.pairwise_iff_getElem.1 hnt) k j (by simp; omega) (by simpa using hlt) hkj
            simp only [List.getElem_map] at hp
            exact absurd (e.trans e1.symm) hp
        rw [this]; simp
      · simp [hdi]
    rw [hno, show decide ((0 : Nat) ≠ 0) = false from rfl]
    refine kfld_of ?_
    refine kld_of (v := .int .i64 d) hb11 (by simp [Part.cells, e1]) ?_
    refine kcall_of (with_spec (maskP (L.take j)) (d : Int) (by omega) (by omega) (by omega) w20) ?_
    rintro v w24 ⟨rfl, rfl⟩
    repeat (first | refine kN_at ?_ | refine kB_at ?_ | refine kfld_of ?_ | refine kext_at rfl ?_ | refine kG_of (by first | exact rfl | omega) ?_ | refine klen_at ?_ | refine eql_at ?_ | refine neq_at ?_ | refine lss_at ?_ | refine leq_at ?_ | refine gtr_at ?_ | refine geq_at ?_ | refine add_at (by omega) (by omega) ?_ | refine sub_at (by omega) (by omega) ?_ | refine not_at ?_ | refine kO_at ?_ | refine kprt_at rfl ?_ | refine kprtN_at rfl ?_ | refine kcap_at ?_ | refine klenStr_at ?_ | refine kN_iat ?_ | refine kN_fat ?_ | refine kIf_T (by first | exact rfl | exact decT (by omega) | exact notT (decF (by omega))) ?_ | refine kIf_F (by first | exact rfl | exact decF (by omega) | exact notF (decT (by omega))) ?_)
    rw [cast_succ]
    refine hJ _ _ _ _ hlt ⟨rfl, ?_, rfl, hm.trans m11⟩
    rw [hsn, e1]
  · have : j = L.length := by omega
    subst this
    rw [List.take_length]
    unfold f74_5
    refine kB_at ?_
    refine kIf_F rfl ?_
    unfold f74_6
    refine kcall_of (cloneP_spec (hs.same hm) hn) ?_
    rintro v w31 ⟨ho, h31, hf31⟩
    refine kcall_of (sorted_spec ho (by omega)) ?_
    rintro v2 w33 ⟨L', g1, g2, g3, g4⟩
    exact ⟨v, L', rfl, g1, g2, g3, (hm.trans h31).trans' (g4.mono fun k _ e => .inr (by have := hf31 k e; have := hm.size; omega)), fun k e => by have := hf31 k e; have := hm.size; omega⟩
end Go.Proofs.YtlkpadfkmdgjcaaGreatDoor
end
section
set_option linter.unusedSimpArgs false
set_option linter.unusedVariables false
namespace Go.Proofs.YtlkpadfkmdgjcaaGreatDoor
open Go Go.Ev
set_option linter.unusedVariables false
set_option linter.unusedSimpArgs false
set_option maxRecDepth 100000
attribute [local irreducible] kO kB kStr kInt kN kG kIf kfld kld kldN kst knew kmap kbld kbldS kext kcnv klenStr klen kcap kprt kprtN kbool kint kstr keq kun ksl kix kiv kta kmk kmm ksem ksemU kextf kcallV kcallM kcall kL

/-! ### An entity comes into a table -/
/-- A table's columns behind some parts more. -/
def pushC (T : TabM) (L : List Part) : TabM := ⟨T.rows, fun c => T.col c ++ L.filter fun q => decide (q.comp = (c : Int))⟩
theorem pushC_nil (T : TabM) : pushC T [] = T := by simp [pushC]
theorem apEnt : appT Tryz.prog 42 2 16 = true := by kernel_rfl
theorem slEnt_is : ∃ e, Tryz.prog.underlying 42 = some (.slice e) := slT_of (by kernel_rfl)
theorem ones_ent : ∀ L : List (Int × Int), oneCells (L.flatMap entC) = true
  | [] => rfl
  | q :: L => by
    rw [List.flatMap_cons]
    show oneCells (.int .i64 q.1 :: .int .i64 q.2 :: L.flatMap entC) = true
    simp only [oneCells, ones_ent L]; rfl
theorem TabAt.col {o : Lab} {w : World} {b i : Nat} {comps : List Nat} {wd pc : Nat → Nat} {T : TabM} (h : TabAt o w b i comps wd pc T) {c : Nat} (hc : c ∈ comps) : ColAt o w (pc c) i c (wd c) (T.col c) := by
  obtain ⟨_, _, _, _, _, _, _, _, hC⟩ := h
  exact hC c hc
theorem TabAt.ext {o : Lab} {w : World} {b i : Nat} {comps : List Nat} {wd pc : Nat → Nat} {T T' : TabM} (h : TabAt o w b i comps wd pc T) (hr : T'.rows = T.rows) (hc : ∀ c ∈ comps, T'.col c = T.col c) : TabAt o w b i comps wd pc T' := by
  obtain ⟨h1, rv, bm, h2, h3, h4, h5, h6, hC⟩ := h
  exact ⟨h1, rv, bm, h2, hr ▸ h3, h4, h5, h6, fun c hcm => by rw [hc c hcm]; exact hC c hcm⟩
theorem StoreP.ptab {o : Lab} {w : World} {b : Nat} {p : Ptrs} {S : SM} (h : StoreP o w b p S) {n : Nat} (hn : n < S.tabs.length) : ∃ ta tc, p.tv = .slice ta S.tabs.length tc ∧ SlIs w ta (List.range S.tabs.length).length 1 ((List.range S.tabs.length).map fun i => ptrV (p.pt i)) := by
  obtain ⟨ta, tn, tc, et, hts, htn⟩ := h.tabs.is
  have htn : tn = S.tabs.length := by simpa using htn rfl
  subst htn
  exact ⟨ta, tc, et, by simpa using hts⟩
theorem tab_set {S : SM} {n : Nat} (hn : n < S.tabs.length) (X : TabM) (h : n < (S.tabs.set n X).length) : (S.tabs.set n X)[n]'h = X := by simp
/-- Columns of table n turned, by what a part pushed leaves. -/
theorem StoreP.pushed {o o' : Lab} {w w' : World} {b : Nat} {p : Ptrs} {S : SM} {n : Nat} (hn : n < S.tabs.length) {L : List Part} {q : Part} {c : Nat} (h : StoreP o w b p { S with tabs := S.tabs.set n (pushC S.tabs[n] L) }) (hq : q.comp = (c : Int)) (hc : c ∈ compsM S.masks n)
    (hl : LabEq w o o') (hm : Mod (FP o (colTag n c)) w w') (hC : ColAt o' w' (p.pc n c) n c (wdF S.cs c) ((pushC S.tabs[n] L).col c ++ [q])) : StoreP o' w' b p { S with tabs := S.tabs.set n (pushC S.tabs[n] (L ++ [q])) } := by
  have hn' : n < (S.tabs.set n (pushC S.tabs[n] L)).length := by simpa using hn
  have hT := h.tab n hn'
  have e : ({ S with tabs := S.tabs.set n (pushC S.tabs[n] L) } : SM).tabs[n] = pushC S.tabs[n] L := tab_set hn _ hn'
  rw [e] at hT
  have hT' := (hT.setCol hc hl (fun _ h => h) hm hC).ext (T' := pushC S.tabs[n] (L ++ [q])) rfl (fun d hd => by
    unfold pushC
    show S.tabs[n].col d ++ (L ++ [q]).filter _ = updC (pushC S.tabs[n] L).col c _ d
    rw [List.filter_append]
    by_cases hdc : d = c
    · subst hdc
      rw [updC_same]
      simp [pushC, hq]
    · rw [updC_ne _ hdc]
      have : ¬ (c : Int) = (d : Int) := by omega
      simp [pushC, hq, this])
  have := h.setTab hn' hl (hm.mono fun k _ hk => FP.mono (fun t ht => .inr (.inr (.inr ⟨c, ht⟩))) hk) hT'
  simpa using this
/-- The state behind 'enter'. -/
def enterS (S : SM) (n : Nat) (i : Nat) (g : Int) (L : List Part) (hn : n < S.tabs.length) : SM :=
  { S with tabs := S.tabs.set n ⟨S.tabs[n].rows ++ [((i : Int), g)], (pushC S.tabs[n] L).col⟩, spots := S.spots.set i (n, S.tabs[n].rows.length) }
theorem sEnter_spec {o : Lab} {w : World} {b : Nat} {p : Ptrs} {S : SM} (h : StoreP o w b p S) {n : Nat} (hn : n < S.tabs.length) {i : Nat} (hi : i < S.spots.length) (g : Int) {L : List Part} {a : Option Addr} {c : Nat} (hs : SlIs w a L.length 6 (L.flatMap Part.cells))
    (hLb : ∀ k f, a = some ⟨k, f, none⟩ → o k = none) (hn16 : L.length ≤ 64) (hf : ∀ q ∈ L, FitsP S.cs q) (hin : ∀ q ∈ L, ∃ c : Nat, q.comp = (c : Int) ∧ c ∈ compsM S.masks n) (hcol : ∀ c ∈ compsM S.masks n, (S.tabs[n].col c).length + L.length < 1000000) (hrows : S.tabs[n].rows.length < 1000000) :
    Meets Tryz.prog 77 #[ptrV b, entV i g, natV n, .slice a L.length c] w fun v w' => v = .nilIface ∧ Turned o w b (enterS S n i g L hn) w' := by
  refine f77_ok ?_
  unfold f77
  refine knew_of fun w2 hm2 hs2 hb2 => ?_
  have hb2 : blk w2 w.heap.size = some (.cells #[.int .i64 i, .int .i64 g] 37) := hb2
  have hP2 := h.cut hm2
  have hs2' := hs.same hm2
  have hLb2 : ∀ k f, a = some ⟨k, f, none⟩ → cutL o w.heap.size k = none := fun k f e => by
    unfold cutL; split
    · exact hLb k f e
    · rfl
  generalize ho0 : cutL o w.heap.size = o0 at *
  have ho0n : ∀ k, w.heap.size ≤ k → o0 k = none := fun k hk => by rw [← ho0]; exact cutL_none hk
  obtain ⟨ta, tc, et, hts⟩ := hP2.ptab hn
  have hb2b := hP2.here
  rw [et] at hb2b
  rw [ptrV]
  repeat (first | refine kN_at ?_ | refine kB_at ?_ | refine kfld_of ?_ | refine kext_at rfl ?_ | refine kld_at hb2b rfl ?_ | refine kldN_at hb2b rfl (by omega) ?_ | refine kG_of (by first | exact rfl | omega) ?_ | refine klen_at ?_ | refine eql_at ?_ | refine neq_at ?_ | refine lss_at ?_ | refine leq_at ?_ | refine gtr_at ?_ | refine geq_at ?_ | refine add_at (by omega) (by omega) ?_ | refine sub_at (by omega) (by omega) ?_ | refine not_at ?_ | refine kO_at ?_ | refine kprt_at rfl ?_ | refine kprtN_at rfl ?_ | refine kcap_at ?_ | refine klenStr_at ?_ | refine kN_iat ?_ | refine kN_fat ?_ | refine kIf_T (by first | exact rfl | exact decT (by omega) | exact notT (decF (by omega))) ?_ | refine kIf_F (by first | exact rfl | exact decF (by omega) | exact notF (decT (by omega))) ?_)
  rw [natV]
  have ele : (List.range S.tabs.length).length = S.tabs.length := List.length_range
  refine kixld_of (F := fun i => ptrV (p.pt i)) (c := tc) (l := List.range S.tabs.length) hts (show n < (List.range S.tabs.length).length by omega) rfl ?_ |> fun h => by rw [ele] at h; exact h
  rw [List.getElem_range]
  refine klen_at ?_
  refine kL1_of L.length (fun j x wr => x = .int .i64 j ∧ ∃ o', LabEq w2 o0 o' ∧ StoreP o' wr b p { S with tabs := S.tabs.set n (pushC S.tabs[n] (L.take j)) } ∧ Mod (FP o0 (tabTag n)) w2 wr) ⟨lI1_0 ⟨rfl, o0, LabEq.refl _ _, ?_, Mod.refl _ _⟩, fun x wr hx => ?_⟩
  · rw [List.take_zero, pushC_nil, List.set_getElem_self]; exact hP2
  obtain ⟨j, hj, ⟨rfl, o', hl', hP', hm'⟩, hJ⟩ := lI1_step hx
  have hsL : SlIs wr a L.length 6 (L.flatMap Part.cells) := hs2'.mod hm' fun k f e ⟨t, e1, _⟩ => by rw [hLb2 k f e] at e1; cases e1
  have hn' : n < (S.tabs.set n (pushC S.tabs[n] (L.take j))).length := by simpa using hn
  unfold f77_0
  refine lss_at ?_
  refine kB_at ?_
  refine kIf_dec (fun hlt => ?_) (fun hge => ?_)
  · have hlt : j < L.length := by omega
    obtain ⟨d, hd1, hd2⟩ := hin _ (List.getElem_mem hlt)
    obtain ⟨d', hf1, hf2, hf3⟩ := hf _ (List.getElem_mem hlt)
    obtain rfl : d' = d := by omega
    have hLj : L.take (j + 1) = L.take j ++ [L[j]] := by rw [List.take_add_one, List.getElem?_eq_getElem hlt]; rfl
    unfold f77_1
    refine kixldN_of (F := Part.cells) (sz := 6) (fun _ => rfl) (by omega) hsL hlt rfl ?_
    refine knew_of fun w13 h13 hs13 hb13 => ?_
    refine kst_of (vs := (L[j]).cells) hb13 rfl rfl rfl (by simp) (by simp [Part.cells]) fun w14 h14 hs14 hb14 => ?_
    have hb14 : blk w14 wr.heap.size = some (.cells (L[j]).cells.toArray 49) := hb14
    have m14 : Same wr w14 := h13.trans' (h14.mono fun k _ e => .inr (by omega))
    have m14 := m14.drew
    have hb14 : blk w14.drew wr.heap.size = _ := hb14
    have hsz14 : w14.drew.heap.size = wr.heap.size + 1 := by show w14.heap.size = _; omega
    generalize w14.drew = wa at *
    have hPa := hP'.frame m14 (fun _ _ _ h => h) (LabEq.cut wr o')
    have hT := hPa.tab n hn'
    rw [show ({ S with tabs := S.tabs.set n (pushC S.tabs[n] (L.take j)) } : SM).tabs[n] = pushC S.tabs[n] (L.take j) from tab_set hn _ hn'] at hT
    have hCol := hT.col hd2
    obtain ⟨q1, rv, bm, q2, q3, q4, q5, q6, q7⟩ := id hT
    rw [ptrV]
    repeat (first | refine kN_at ?_ | refine kB_at ?_ | refine kfld_of ?_ | refine kext_at rfl ?_ | refine kld_at q2 rfl ?_ | refine kldN_at q2 rfl (by omega) ?_ | refine kG_of (by first | exact rfl | omega) ?_ | refine klen_at ?_ | refine eql_at ?_ | refine neq_at ?_ | refine lss_at ?_ | refine leq_at ?_ | refine gtr_at ?_ | refine geq_at ?_ | refine add_at (by omega) (by omega) ?_ | refine sub_at (by omega) (by omega) ?_ | refine not_at ?_ | refine kO_at ?_ | refine kprt_at rfl ?_ | refine kprtN_at rfl ?_ | refine kcap_at ?_ | refine klenStr_at ?_ | refine kN_iat ?_ | refine kN_fat ?_ | refine kIf_T (by first | exact rfl | exact decT (by omega) | exact notT (decF (by omega))) ?_ | refine kIf_F (by first | exact rfl | exact decF (by omega) | exact notF (decT (by omega))) ?_)
    refine kld_of (v := .int .i64 d') hb14 (by simp [Part.cells, hd1]) ?_
    refine kG_of rfl ?_
    refine klook_of Tryz.underlying147 Tryz.underlying3 zCol q6 (r := some (_, _)) (by rw [lk_comps, if_pos hd2]) ?_
    refine kG_of rfl ?_
    repeat (first | refine kN_at ?_ | refine kB_at ?_ | refine kfld_of ?_ | refine kext_at rfl ?_ | refine kld_at hb14 rfl ?_ | refine kldN_at hb14 rfl (by omega) ?_ | refine kG_of (by first | exact rfl | omega) ?_ | refine klen_at ?_ | refine eql_at ?_ | refine neq_at ?_ | refine lss_at ?_ | refine leq_at ?_ | refine gtr_at ?_ | refine geq_at ?_ | refine add_at (by omega) (by omega) ?_ | refine sub_at (by omega) (by omega) ?_ | refine not_at ?_ | refine kO_at ?_ | refine kprt_at rfl ?_ | refine kprtN_at rfl ?_ | refine kcap_at ?_ | refine klenStr_at ?_ | refine kN_iat ?_ | refine kN_fat ?_ | refine kIf_T (by first | exact rfl | exact decT (by omega) | exact notT (decF (by omega))) ?_ | refine kIf_F (by first | exact rfl | exact decF (by omega) | exact notF (decT (by omega))) ?_)
    have hlenc : ((pushC S.tabs[n] (L.take j)).col d').length < 1000000 := by
      have h1 := hcol d' hd2
      have h2 := List.length_filter_le (fun q : Part => decide (q.comp = (d' : Int))) (L.take j)
      have h3 : (L.take j).length ≤ L.length := by rw [List.length_take]; omega
      show (S.tabs[n].col d' ++ (L.take j).filter _).length < 1000000
      rw [List.length_append]
      omega
    refine kcall_of (cPush_spec hCol (L[j]) ⟨hd1, hf3⟩ hlenc) ?_
    rintro v w23 ⟨rfl, o2, hl2, hC2, hm23⟩
    repeat (first | refine kN_at ?_ | refine kB_at ?_ | refine kfld_of ?_ | refine kext_at rfl ?_ | refine kG_of (by first | exact rfl | omega) ?_ | refine klen_at ?_ | refine eql_at ?_ | refine neq_at ?_ | refine lss_at ?_ | refine leq_at ?_ | refine gtr_at ?_ | refine geq_at ?_ | refine add_at (by omega) (by omega) ?_ | refine sub_at (by omega) (by omega) ?_ | refine not_at ?_ | refine kO_at ?_ | refine kprt_at rfl ?_ | refine kprtN_at rfl ?_ | refine kcap_at ?_ | refine klenStr_at ?_ | refine kN_iat ?_ | refine kN_fat ?_ | refine kIf_T (by first | exact rfl | exact decT (by omega) | exact notT (decF (by omega))) ?_ | refine kIf_F (by first | exact rfl | exact decF (by omega) | exact notF (decT (by omega))) ?_)
    rw [keq_nil_nil' ifErr]
    repeat (first | refine kN_at ?_ | refine kB_at ?_ | refine kfld_of ?_ | refine kext_at rfl ?_ | refine kG_of (by first | exact rfl | omega) ?_ | refine klen_at ?_ | refine eql_at ?_ | refine neq_at ?_ | refine lss_at ?_ | refine leq_at ?_ | refine gtr_at ?_ | refine geq_at ?_ | refine add_at (by omega) (by omega) ?_ | refine sub_at (by omega) (by omega) ?_ | refine not_at ?_ | refine kO_at ?_ | refine kprt_at rfl ?_ | refine kprtN_at rfl ?_ | refine kcap_at ?_ | refine klenStr_at ?_ | refine kN_iat ?_ | refine kN_fat ?_ | refine kIf_T (by first | exact rfl | exact decT (by omega) | exact notT (decF (by omega))) ?_ | refine kIf_F (by first | exact rfl | exact decF (by omega) | exact notF (decT (by omega))) ?_)
    rw [cast_succ]
    have hPn := hPa.pushed hn hd1 hd2 hl2 hm23 hC2
    rw [← hLj] at hPn
    refine hJ _ _ hlt ⟨rfl, o2, fun k hk => ?_, hPn, ?_⟩
    · have h1 := hm'.size
      rw [hl2 k (by omega)]
      unfold cutL
      rw [if_pos (by omega)]
      exact hl' k hk
    · refine hm'.trans' ((Mod.of_same m14).trans (hm23.mono fun k _ hk => ?_))
      obtain ⟨⟨t, e1, e2⟩, e3⟩ := hk.cut
      rcases Nat.lt_or_ge k w2.heap.size with hk2 | hk2
      · left
        exact ⟨t, by rw [← hl' k hk2]; exact e1, .inr (.inr (.inr ⟨d', e2⟩))⟩
      · exact .inr hk2
  · have : j = L.length := by omega
    subst this
    rw [List.take_length] at hP' hn'
    clear hJ hx
    unfold f77_3
    have m3 := (Mod.refl (fun _ => False) wr).drew
    have hPa := hP'.frame m3 (fun _ _ _ h => h) (LabEq.cut wr o')
    have hbe : blk wr.drew w.heap.size = some (.cells #[.int .i64 i, .int .i64 g] 37) := hm'.get hb2 fun ⟨t, e1, _⟩ => by rw [ho0n _ (Nat.le_refl _)] at e1; cases e1
    have hszr : w2.heap.size ≤ wr.drew.heap.size := hm'.size
    have hm3 : Mod (FP o0 (tabTag n)) w2 wr.drew := hm'.drew
    have hlab3 : LabEq w2 o0 (cutL o' wr.heap.size) := fun k hk => by
      have := hm'.size
      unfold cutL
      rw [if_pos (by omega)]
      exact hl' k hk
    have hcut3 : ∀ k, wr.drew.heap.size ≤ k → cutL o' wr.heap.size k = none := fun k hk => cutL_none hk
    generalize hoc : cutL o' wr.heap.size = oc at *
    generalize wr.drew = wa at *
    have hba := hPa.here
    have hT := hPa.tab n hn'
    rw [show ({ S with tabs := S.tabs.set n (pushC S.tabs[n] L) } : SM).tabs[n] = pushC S.tabs[n] L from tab_set hn _ hn'] at hT
    obtain ⟨q1, rv, bm, q2, q3, q4, q5, q6, q7⟩ := id hT
    obtain ⟨ra, rn, rc, rfl, hrs, _⟩ := q3.is
    have hrn : rn = S.tabs[n].rows.length := by
      have := hrs.1
      rw [flat_len entC 2 (fun _ => rfl)] at this
      show rn = (pushC S.tabs[n] L).rows.length
      omega
    subst hrn
    obtain ⟨bs, csc, arr, t, es, hbs, s1, s2, s3⟩ := hPa.spots.viewF (F := spotC) (sz := 2) (fun _ => rfl) (by omega) (show 0 < S.spots.length by omega)
    have hspl := hPa.spotsl bs (by rw [es]; exact ⟨_, _, _, rfl⟩)
    have hsp0 := hPa.spots
    rw [es] at hba hsp0
    rw [ptrV]
    have nbt : bs ≠ p.pt n := fun e => by rw [e, q1] at hspl; cases hspl
    have nbb : b ≠ p.pt n := fun e => by
      have := hPa.lab
      rw [e, q1] at this; cases this
    have lbs := lt_of_blk hbs
    have lpt := lt_of_blk q2
    have he0 : oc w.heap.size = none := by rw [hlab3 _ (by omega)]; exact ho0n _ (Nat.le_refl _)
    have neb : bs ≠ w.heap.size := fun e => by rw [e, he0] at hspl; cases hspl
    have net : p.pt n ≠ w.heap.size := fun e => by rw [e, he0] at q1; cases q1
    repeat (first | refine kN_at ?_ | refine kB_at ?_ | refine kfld_of ?_ | refine kext_at rfl ?_ | refine kld_at hba rfl ?_ | refine kld_at hbe rfl ?_ | refine kld_at q2 rfl ?_ | refine kldN_at hba rfl (by omega) ?_ | refine kldN_at hbe rfl (by omega) ?_ | refine kldN_at q2 rfl (by omega) ?_ | refine kG_of (by first | exact rfl | omega) ?_ | refine klen_at ?_ | refine eql_at ?_ | refine neq_at ?_ | refine lss_at ?_ | refine leq_at ?_ | refine gtr_at ?_ | refine geq_at ?_ | refine add_at (by omega) (by omega) ?_ | refine sub_at (by omega) (by omega) ?_ | refine not_at ?_ | refine kO_at ?_ | refine kprt_at rfl ?_ | refine kprtN_at rfl ?_ | refine kcap_at ?_ | refine klenStr_at ?_ | refine kN_iat ?_ | refine kN_fat ?_ | refine kIf_T (by first | exact rfl | exact decT (by omega) | exact notT (decF (by omega))) ?_ | refine kIf_F (by first | exact rfl | exact decF (by omega) | exact notF (decT (by omega))) ?_)
    refine kbld_of (cs := [.int .i64 n, .int .i64 S.tabs[n].rows.length]) rfl ?_
    rw [kix_slice]
    refine kG_of (by simp; omega) ?_
    rw [add_mk, Nat.zero_add, Int.toNat_natCast]
    have hsl := (segL_spec _ _ _ _ (s3 i hi)).1
    rw [Array.length_toList] at hsl
    refine kst_of (vs := spotC (n, S.tabs[n].rows.length)) hbs rfl rfl rfl hsl (by simp [spotC]) fun w40 h40 hs40 hb40 => ?_
    have hb40 : blk w40.drew bs = _ := hb40
    have h40 : Mod (fun k => k = bs) wa w40.drew := h40.drew
    have hbe40 := h40.get hbe neb.symm
    have q240 := h40.get q2 nbt.symm
    have hrv40 : Own w40.drew (.slice ra S.tabs[n].rows.length rc) 2 (S.tabs[n].rows.flatMap entC) := q3.mod h40 fun k hk e => by
      subst e
      rw [q4 _ hk] at hspl; cases hspl
    have hs40' : w40.drew.heap.size = wa.heap.size := hs40
    generalize w40.drew = wb at *
    repeat (first | refine kN_at ?_ | refine kB_at ?_ | refine kfld_of ?_ | refine kext_at rfl ?_ | refine kld_at q240 rfl ?_ | refine kld_at hbe40 rfl ?_ | refine kldN_at q240 rfl (by omega) ?_ | refine kldN_at hbe40 rfl (by omega) ?_ | refine kG_of (by first | exact rfl | omega) ?_ | refine klen_at ?_ | refine eql_at ?_ | refine neq_at ?_ | refine lss_at ?_ | refine leq_at ?_ | refine gtr_at ?_ | refine geq_at ?_ | refine add_at (by omega) (by omega) ?_ | refine sub_at (by omega) (by omega) ?_ | refine not_at ?_ | refine kO_at ?_ | refine kprt_at rfl ?_ | refine kprtN_at rfl ?_ | refine kcap_at ?_ | refine klenStr_at ?_ | refine kN_iat ?_ | refine kN_fat ?_ | refine kIf_T (by first | exact rfl | exact decT (by omega) | exact notT (decF (by omega))) ?_ | refine kIf_F (by first | exact rfl | exact decF (by omega) | exact notF (decT (by omega))) ?_)
    refine kbldS_of (cs := [.int .i64 i, .int .i64 g]) rfl fun w45 h45 hs45 hb45 => ?_
    have q245 := h45.get q240 (fun h => h)
    refine kG_of (kld_at q245 rfl ⟨rfl, rfl⟩) ?_
    refine ksem_append apEnt (by omega) (hrv40.same h45) (Src.ofSlIs (hk := slEnt_is.choose_spec) 1 (SlIs.blk hb45 rfl) rfl) (by rw [flat_len entC 2 (fun _ => rfl)]; simp; omega) (by rw [flat_len entC 2 (fun _ => rfl)]; simp; omega) ?_
    intro v' w47 ho47 hm47 hf47
    have q247 := hm47.get q245 (fun e => by have := q4 _ e; rw [q1] at this; cases this)
    obtain ⟨a', n', c', rfl, _⟩ := ho47.is
    repeat (first | refine kN_at ?_ | refine kB_at ?_ | refine kfld_of ?_ | refine kext_at rfl ?_ | refine kG_of (by first | exact rfl | omega) ?_ | refine klen_at ?_ | refine eql_at ?_ | refine neq_at ?_ | refine lss_at ?_ | refine leq_at ?_ | refine gtr_at ?_ | refine geq_at ?_ | refine add_at (by omega) (by omega) ?_ | refine sub_at (by omega) (by omega) ?_ | refine not_at ?_ | refine kO_at ?_ | refine kprt_at rfl ?_ | refine kprtN_at rfl ?_ | refine kcap_at ?_ | refine klenStr_at ?_ | refine kN_iat ?_ | refine kN_fat ?_ | refine kIf_T (by first | exact rfl | exact decT (by omega) | exact notT (decF (by omega))) ?_ | refine kIf_F (by first | exact rfl | exact decF (by omega) | exact notF (decT (by omega))) ?_)
    refine kst1_of q247 rfl rfl (by simp) fun w49 h49 hs49 hb49 => ?_
    simp only [List.setIfInBounds_toArray, List.set_cons_succ, List.set_cons_zero] at hb49
    have hall : Mod (fun k => k = bs ∨ k = p.pt n ∨ vblk (.slice ra S.tabs[n].rows.length rc) k) wa w49 := (h40.mono fun k _ e => .inl e).trans ((Mod.of_same h45).trans ((hm47.mono fun k _ e => .inr (.inr e)).trans (h49.mono fun k _ e => .inr (.inl e))))
    have hFP : Mod (FP oc fun t => tabTag n t ∨ t = .spots) wa w49 := hall.mono fun k _ e => by
      rcases e with rfl | rfl | e
      · exact ⟨_, hspl, .inr rfl⟩
      · exact ⟨_, q1, .inl (.inl rfl)⟩
      · exact ⟨_, q4 k e, .inl (.inr (.inl rfl))⟩
    have hlx : LabEq wa oc (ext oc wa.heap.size (.trows n)) := LabEq.ext _ _ _
    have hTn : TabAt (ext oc wa.heap.size (.trows n)) w49 (p.pt n) n (compsM S.masks n) (wdF S.cs) (p.pc n) ⟨S.tabs[n].rows ++ [((i : Int), g)], (pushC S.tabs[n] L).col⟩ := by
      refine ⟨by unfold ext; rw [if_pos lpt]; exact q1, _, bm, hb49, ?_, ?_, by unfold ext; rw [if_pos (lt_of_blk q6)]; exact q5, q6.mod hall ?_, fun d hd => (q7 d hd).frame hall (fun k t e et ek => ?_) hlx⟩
      · show Own w49 _ 2 ((S.tabs[n].rows ++ [((i : Int), g)]).flatMap entC)
        rw [List.flatMap_append]
        exact ho47.mod h49 fun k hk e => by
          subst e
          rcases hf47 _ hk with h | h
          · have := q4 _ h; rw [q1] at this; cases this
          · omega
      · intro k hk
        unfold ext
        rcases hf47 k hk with h | h
        · have := q3.vblk_lt h
          rw [if_pos this]; exact q4 k h
        · rw [if_neg (by have := h45.size; omega)]
      · rintro (e | e | e)
        · rw [e, hspl] at q5; cases q5
        · rw [e, q1] at q5; cases q5
        · have := q4 _ e; rw [q5] at this; cases this
      · rcases ek with rfl | rfl | ek
        · rw [hspl] at e; cases e; rcases et with h | h | h <;> cases h
        · rw [q1] at e; cases e; rcases et with h | h | h <;> cases h
        · rw [q4 k ek] at e; cases e; rcases et with h | h | h <;> cases h
    have hspn : Own w49 p.sv 2 ((S.spots.set i (n, S.tabs[n].rows.length)).flatMap spotC) := by
      rw [es]
      refine Own.setF (F := spotC) (fun _ => rfl) hsp0 hbs (x := (n, S.tabs[n].rows.length)) (i := i) ?_ hi
      exact h49.get (hm47.get (h45.get hb40 (fun h => h)) (fun e => by have := q4 _ e; rw [hspl] at this; cases this)) nbt
    have hPn := hPa.setTS hn' hlx hFP hspn (by simp) hTn
    have hSn : ({ ({ S with tabs := S.tabs.set n (pushC S.tabs[n] L) } : SM) with tabs := (S.tabs.set n (pushC S.tabs[n] L)).set n ⟨S.tabs[n].rows ++ [((i : Int), g)], (pushC S.tabs[n] L).col⟩, spots := S.spots.set i (n, S.tabs[n].rows.length) } : SM) = enterS S n i g L hn := by
      unfold enterS
      simp
    rw [hSn] at hPn
    refine ⟨rfl, ?_⟩
    subst ho0
    refine Turned.of (T := fun t => True) hm2 (fun k hk => ?_) hPn (hm3.mono (fun k _ hk => FP.mono (fun _ _ => trivial) hk) |>.trans' (hFP.mono fun k hk e => ?_)) (Mod.refl _ _)
    · unfold ext
      rw [if_pos (by omega)]
      exact hlab3 k hk
    · rcases Nat.lt_or_ge k w2.heap.size with hk2 | hk2
      · left
        obtain ⟨t, e1, _⟩ := e
        exact ⟨t, by rw [← hlab3 k hk2]; exact e1, trivial⟩
      · exact .inr hk2
end Go.Proofs.YtlkpadfkmdgjcaaGreatDoor
end
section
set_option linter.unusedSimpArgs false
set_option linter.unusedVariables false
namespace Go.Proofs.YtlkpadfkmdgjcaaGreatDoor
open Go Go.Ev
set_option linter.unusedVariables false
set_option linter.unusedSimpArgs false
set_option maxRecDepth 100000
attribute [local irreducible] kO kB kStr kInt kN kG kIf kfld kld kldN kst knew kmap kbld kbldS kext kcnv klenStr klen kcap kprt kprtN kbool kint kstr keq kun ksl kix kiv kta kmk kmm ksem ksemU kextf kcallV kcallM kcall kL

/-! ### The roll turned, the atlas turned -/
theorem tag_roll_atlas {t : Tag} (h1 : rollTag t) (h2 : atlasTag t) : False := by
  rcases h1 with rfl | rfl | rfl <;> rcases h2 with h | h | h | ⟨i, h⟩ <;> cases h
theorem tag_roll_tab {t : Tag} {i : Nat} (h1 : rollTag t) (h2 : tabTag i t) : False := by
  rcases h1 with rfl | rfl | rfl <;> rcases h2 with h | h | h | ⟨c, h | h | h⟩ <;> cases h
theorem tag_atlas_tab {t : Tag} {i : Nat} (h1 : atlasTag t) (h2 : tabTag i t) : False := by
  rcases h1 with rfl | rfl | rfl | ⟨j, rfl⟩ <;> rcases h2 with h | h | h | ⟨c, h | h | h⟩ <;> cases h
theorem not_FP {o : Lab} {T : Tag → Prop} {k : Nat} {t : Tag} (e : o k = some t) (h : ¬ T t) : ¬ FP o T k := fun ⟨t', e1, e2⟩ => by
  rw [e] at e1; cases e1; exact h e2
theorem StoreP.setRoll {o o' : Lab} {w w' : World} {b : Nat} {p : Ptrs} {S : SM} (h : StoreP o w b p S) {gens : List (Int × Bool)} {free : List Nat} (hl : LabEq w o o') (hm : Mod (FP o rollTag) w w') (hR : RollAt o' w' p.bR gens free) :
    StoreP o' w' b p { S with gens := gens, free := free } where
  lab := by rw [hl b (lt_of_blk h.here)]; exact h.lab
  good := h.good
  tle := h.tle
  mle := h.mle
  sle := h.sle
  here := hm.get h.here (not_FP h.lab (by rintro (h | h | h) <;> cases h))
  roll := hR
  atlas := h.atlas.frame hm (fun k t e et => not_FP e fun h => tag_roll_atlas h et) hl
  sch := h.sch.mod hm fun k f e => not_FP (h.schl k f e).1 (by rintro (h | h | h) <;> cases h)
  schl k f e := ⟨by rw [hl k (h.schl k f e).2]; exact (h.schl k f e).1, Nat.lt_of_lt_of_le (h.schl k f e).2 hm.size⟩
  tabs := h.tabs.mod hm fun k e => not_FP (h.tabsl k e) (by rintro (h | h | h) <;> cases h)
  tabsl k e := by rw [hl k (h.tabs.vblk_lt e)]; exact h.tabsl k e
  spots := h.spots.mod hm fun k e => not_FP (h.spotsl k e) (by rintro (h | h | h) <;> cases h)
  spotsl k e := by rw [hl k (h.spots.vblk_lt e)]; exact h.spotsl k e
  tab i hi := (h.tab i hi).frame hm (fun k t e et => not_FP e fun h => tag_roll_tab h et) hl
theorem compsM_addM {ms : List Nat} {m i : Nat} (hi : i < ms.length) : compsM (addM ms m) i = compsM ms i := by
  have e : (addM ms m)[i]? = ms[i]? := by
    unfold addM
    split
    · rfl
    · rw [List.getElem?_append_left hi]
  unfold compsM
  rw [e]
theorem StoreP.setAtlas {o o' : Lab} {w w' : World} {b : Nat} {p : Ptrs} {S : SM} (h : StoreP o w b p S) {m : Nat} (hlen : S.masks.length < 90000) (hl : LabEq w o o') (hm : Mod (FP o atlasTag) w w') (hA : AtlasAt o' w' p.bA S.cs.length (addM S.masks m)) :
    StoreP o' w' b p { S with masks := addM S.masks m } where
  lab := by rw [hl b (lt_of_blk h.here)]; exact h.lab
  good := h.good
  tle := by
    have := h.tle
    show S.tabs.length ≤ (addM S.masks m).length
    unfold addM; split
    · exact this
    · simp; omega
  mle := by
    show (addM S.masks m).length ≤ 90000
    unfold addM; split
    · omega
    · simp; omega
  sle := h.sle
  here := hm.get h.here (not_FP h.lab (by rintro (h | h | h | ⟨i, h⟩) <;> cases h))
  roll := h.roll.frame hm (fun k t e et => not_FP e fun h => tag_roll_atlas et h) hl
  atlas := hA
  sch := h.sch.mod hm fun k f e => not_FP (h.schl k f e).1 (by rintro (h | h | h | ⟨i, h⟩) <;> cases h)
  schl k f e := ⟨by rw [hl k (h.schl k f e).2]; exact (h.schl k f e).1, Nat.lt_of_lt_of_le (h.schl k f e).2 hm.size⟩
  tabs := h.tabs.mod hm fun k e => not_FP (h.tabsl k e) (by rintro (h | h | h | ⟨i, h⟩) <;> cases h)
  tabsl k e := by rw [hl k (h.tabs.vblk_lt e)]; exact h.tabsl k e
  spots := h.spots.mod hm fun k e => not_FP (h.spotsl k e) (by rintro (h | h | h | ⟨i, h⟩) <;> cases h)
  spotsl k e := by rw [hl k (h.spots.vblk_lt e)]; exact h.spotsl k e
  tab i hi := by
    have hi' : i < S.masks.length := Nat.lt_of_lt_of_le hi h.tle
    have := (h.tab i hi).frame hm (fun k t e et => not_FP e fun h => tag_atlas_tab h et) hl
    show TabAt o' w' (p.pt i) i (compsM (addM S.masks m) i) _ _ _
    rw [compsM_addM hi']
    exact this
theorem idx_addM_lt (ms : List Nat) (m : Nat) : (addM ms m).idxOf m < (addM ms m).length := List.idxOf_lt_length_of_mem (addM_mem ms m)
theorem idx_addM (ms : List Nat) (m : Nat) : (addM ms m)[(addM ms m).idxOf m]? = some m := by
  rw [List.getElem?_eq_getElem (idx_addM_lt ms m), List.getElem_idxOf (idx_addM_lt ms m)]
/-- The tables behind a set more. -/
def laidS (S : SM) (m : Nat) : SM := layS { S with masks := addM S.masks m } ((addM S.masks m).length - S.tabs.length)
theorem laidS_len {S : SM} (h : S.tabs.length ≤ S.masks.length) (m : Nat) : (laidS S m).tabs.length = (addM S.masks m).length := by
  have : S.masks.length ≤ (addM S.masks m).length := by unfold addM; split <;> simp
  simp [laidS, layS]; omega
def rollS (S : SM) (gens : List (Int × Bool)) (free : List Nat) : SM := { S with gens := gens, free := free }
/-- The state behind a Spawn. -/
def spawnS (S : SM) (m i : Nat) (g : Int) (L : List Part) (h : S.tabs.length ≤ S.masks.length) (gens : List (Int × Bool)) (free : List Nat) : SM :=
  enterS (laidS (rollS S gens free) m) ((addM S.masks m).idxOf m) i g L (by
    have := laidS_len (S := rollS S gens free) h m
    rw [this]; exact idx_addM_lt _ _)
/-- No table is long. -/
def Bnd (S : SM) : Prop := ∀ n T, S.tabs[n]? = some T → T.rows.length ≤ 999000 ∧ ∀ c ∈ compsM S.masks n, (T.col c).length ≤ 999000
theorem Bnd.laid {S : SM} (h : Bnd S) (ht : S.tabs.length ≤ S.masks.length) (m : Nat) : Bnd (laidS S m) := by
  intro n T hT
  have hT : (S.tabs ++ List.replicate ((addM S.masks m).length - S.tabs.length) TabM.empty)[n]? = some T := hT
  rcases Nat.lt_or_ge n S.tabs.length with hn | hn
  · rw [List.getElem?_append_left hn] at hT
    obtain ⟨h1, h2⟩ := h n T hT
    refine ⟨h1, fun c hc => h2 c ?_⟩
    rw [← compsM_addM (m := m) (by omega)]; exact hc
  · rw [List.getElem?_append_right hn] at hT
    obtain ⟨h1, h2⟩ := List.getElem?_eq_some_iff.1 hT
    rw [List.getElem_replicate] at h2
    subst h2
    exact ⟨by decide, fun c _ => by show ([] : List Part).length ≤ _; decide⟩
theorem sSpawn_spec {o : Lab} {w : World} (hD : DeAt w) {b : Nat} {p : Ptrs} {S : SM} (h : StoreP o w b p S) (hDo : o 18 = none) {K : Nat} (hK : K + 1 = S.free.length) {i : Nat} (hi : S.free[K]'(by omega) = i) (hlt : i < S.gens.length) (hg : 0 ≤ (S.gens[i]).1 ∧ (S.gens[i]).1 ≤ 1000000) (hisp : i < S.spots.length) (hml : S.masks.length < 80000) (hB : Bnd S)
    {L : List Part} {a : Option Addr} {c : Nat} (hs : SlIs w a L.length 6 (L.flatMap Part.cells)) (hLb : ∀ k f, a = some ⟨k, f, none⟩ → o k = none) (hn16 : L.length ≤ 64) (hf : ∀ q ∈ L, FitsP S.cs q) (hnt : NoTwice L) :
    Meets Tryz.prog 14 #[ptrV b, .slice a L.length c] w fun v w' => v = .tuple #[entV i ((S.gens[i]).1 + 1), .nilIface] ∧ ∃ L' : List Part, L'.Perm L ∧ L'.Pairwise (fun x y => x.comp ≤ y.comp) ∧
      Turned o w b (spawnS S (maskP L) i ((S.gens[i]).1 + 1) L' h.tle (S.gens.set i ((S.gens[i]).1 + 1, true)) (S.free.take K)) w' := by
  have hg16 := h.good.1
  have hmlt := maskP_lt S.cs hg16 L hf
  have hp16 : 2 ^ S.cs.length ≤ 2 ^ 16 := Nat.pow_le_pow_right (by omega) hg16
  refine f14_ok ?_
  unfold f14
  refine knew_of fun w2 hm2 hs2 hb2 => ?_
  have hP2 := h.cut hm2
  have hcutn : ∀ k, w.heap.size ≤ k → cutL o w.heap.size k = none := fun k hk => cutL_none hk
  have hDo0 : cutL o w.heap.size 18 = none := by
    unfold cutL; split
    · exact hDo
    · rfl
  rw [ptrV]
  rw [keq_ptr_nil ptSto]
  refine kB_at ?_
  refine kIf_F rfl ?_
  unfold f14_0
  refine kcall_of (sGathered_spec hP2 (hs.same hm2) (by omega) hf hnt) ?_
  rintro v w12 ⟨sv, L', rfl, hL1, hL2, hL3, h12, hf12⟩
  have m12 := hm2.trans h12
  have hP12 := hP2.same h12
  have hb12 := h12.get hb2 (fun h => h)
  repeat (first | refine kN_at ?_ | refine kB_at ?_ | refine kfld_of ?_ | refine kext_at rfl ?_ | refine kG_of (by first | exact rfl | omega) ?_ | refine klen_at ?_ | refine eql_at ?_ | refine neq_at ?_ | refine lss_at ?_ | refine leq_at ?_ | refine gtr_at ?_ | refine geq_at ?_ | refine add_at (by omega) (by omega) ?_ | refine sub_at (by omega) (by omega) ?_ | refine not_at ?_ | refine kO_at ?_ | refine kprt_at rfl ?_ | refine kprtN_at rfl ?_ | refine kcap_at ?_ | refine klenStr_at ?_ | refine kN_iat ?_ | refine kN_fat ?_ | refine kIf_T (by first | exact rfl | exact decT (by omega) | exact notT (decF (by omega))) ?_ | refine kIf_F (by first | exact rfl | exact decF (by omega) | exact notF (decT (by omega))) ?_)
  rw [keq_nil_nil' ifErr]
  refine kB_at ?_
  refine kIf_F rfl ?_
  unfold f14_1
  have hh12 := hP12.here
  rw [ptrV] at hh12
  repeat (first | refine kN_at ?_ | refine kB_at ?_ | refine kfld_of ?_ | refine kext_at rfl ?_ | refine kld_at hh12 rfl ?_ | refine kldN_at hh12 rfl (by omega) ?_ | refine kG_of (by first | exact rfl | omega) ?_ | refine klen_at ?_ | refine eql_at ?_ | refine neq_at ?_ | refine lss_at ?_ | refine leq_at ?_ | refine gtr_at ?_ | refine geq_at ?_ | refine add_at (by omega) (by omega) ?_ | refine sub_at (by omega) (by omega) ?_ | refine not_at ?_ | refine kO_at ?_ | refine kprt_at rfl ?_ | refine kprtN_at rfl ?_ | refine kcap_at ?_ | refine klenStr_at ?_ | refine kN_iat ?_ | refine kN_fat ?_ | refine kIf_T (by first | exact rfl | exact decT (by omega) | exact notT (decF (by omega))) ?_ | refine kIf_F (by first | exact rfl | exact decF (by omega) | exact notF (decT (by omega))) ?_)
  refine kcall_of (rTake_spec hP12.roll hK hi hlt hg) ?_
  rintro v w24 ⟨rfl, hR24, hm24⟩
  have hP24 := hP12.setRoll (LabEq.refl _ _) hm24 hR24
  have hb24 := hm24.get hb12 (fun e => by have := e.cut.2; omega)
  have hsz12 : w.heap.size + 1 ≤ w12.heap.size := by have := h12.size; omega
  repeat (first | refine kN_at ?_ | refine kB_at ?_ | refine kfld_of ?_ | refine kext_at rfl ?_ | refine kG_of (by first | exact rfl | omega) ?_ | refine klen_at ?_ | refine eql_at ?_ | refine neq_at ?_ | refine lss_at ?_ | refine leq_at ?_ | refine gtr_at ?_ | refine geq_at ?_ | refine add_at (by omega) (by omega) ?_ | refine sub_at (by omega) (by omega) ?_ | refine not_at ?_ | refine kO_at ?_ | refine kprt_at rfl ?_ | refine kprtN_at rfl ?_ | refine kcap_at ?_ | refine klenStr_at ?_ | refine kN_iat ?_ | refine kN_fat ?_ | refine kIf_T (by first | exact rfl | exact decT (by omega) | exact notT (decF (by omega))) ?_ | refine kIf_F (by first | exact rfl | exact decF (by omega) | exact notF (decT (by omega))) ?_)
  refine knew_of fun w28 h28 hs28 hb28 => ?_
  refine kst_of (vs := [.int .i64 i, .int .i64 ((S.gens[i]).1 + 1)]) hb28 rfl rfl rfl (by simp) (by simp) fun w29 h29 hs29 hb29 => ?_
  have hb29 : blk w29 w24.heap.size = some (.cells #[.int .i64 i, .int .i64 ((S.gens[i]).1 + 1)] 37) := hb29
  have m29 : Same w24 w29 := h28.trans' (h29.mono fun k _ e => .inr (by omega))
  rw [keq_nil_nil' ifErr]
  refine kB_at ?_
  refine kIf_F rfl ?_
  unfold f14_2
  have hP29 := hP24.same m29
  have hh29 := hP29.here
  rw [ptrV] at hh29
  have hc29 : cutL o w.heap.size w24.heap.size = none := hcutn _ (by have := hm24.size; omega)
  repeat (first | refine kN_at ?_ | refine kB_at ?_ | refine kfld_of ?_ | refine kext_at rfl ?_ | refine kld_at hh29 rfl ?_ | refine kldN_at hh29 rfl (by omega) ?_ | refine kG_of (by first | exact rfl | omega) ?_ | refine klen_at ?_ | refine eql_at ?_ | refine neq_at ?_ | refine lss_at ?_ | refine leq_at ?_ | refine gtr_at ?_ | refine geq_at ?_ | refine add_at (by omega) (by omega) ?_ | refine sub_at (by omega) (by omega) ?_ | refine not_at ?_ | refine kO_at ?_ | refine kprt_at rfl ?_ | refine kprtN_at rfl ?_ | refine kcap_at ?_ | refine klenStr_at ?_ | refine kN_iat ?_ | refine kN_fat ?_ | refine kIf_T (by first | exact rfl | exact decT (by omega) | exact notT (decF (by omega))) ?_ | refine kIf_F (by first | exact rfl | exact decF (by omega) | exact notF (decT (by omega))) ?_)
  refine kcall_of (at_spec hP29.atlas (maskP L) hmlt (by show S.masks.length < 100000; omega)) ?_
  rintro v w40 ⟨rfl, o3, hl3, hA3, hm40⟩
  have hP40 := hP29.setAtlas (m := maskP L) (by show S.masks.length < 90000; omega) hl3 hm40 hA3
  have hb40 := hm40.get (m29.get hb24 (fun h => h)) (fun e => by have := e.cut.2; omega)
  have he40 := hm40.get hb29 (fun e => by obtain ⟨t, e1, _⟩ := e; rw [hc29] at e1; cases e1)
  repeat (first | refine kN_at ?_ | refine kB_at ?_ | refine kfld_of ?_ | refine kext_at rfl ?_ | refine kG_of (by first | exact rfl | omega) ?_ | refine klen_at ?_ | refine eql_at ?_ | refine neq_at ?_ | refine lss_at ?_ | refine leq_at ?_ | refine gtr_at ?_ | refine geq_at ?_ | refine add_at (by omega) (by omega) ?_ | refine sub_at (by omega) (by omega) ?_ | refine not_at ?_ | refine kO_at ?_ | refine kprt_at rfl ?_ | refine kprtN_at rfl ?_ | refine kcap_at ?_ | refine klenStr_at ?_ | refine kN_iat ?_ | refine kN_fat ?_ | refine kIf_T (by first | exact rfl | exact decT (by omega) | exact notT (decF (by omega))) ?_ | refine kIf_F (by first | exact rfl | exact decF (by omega) | exact notF (decT (by omega))) ?_)
  rw [keq_nil_nil' ifErr]
  refine kB_at ?_
  refine kIf_F rfl ?_
  unfold f14_3
  have hsz24 := hm24.size
  have hsz29 := m29.size
  have hsz40 := hm40.size
  have hP40c := hP40.frame (Mod.refl (fun _ => False) _) (fun _ _ _ h => h) (LabEq.cut w40 o3)
  have hD40 : DeAt w40 := by
    have d12 := hD.same m12
    have d24 := d12.mod hm24 fun ⟨t, e1, _⟩ => by rw [hDo0] at e1; cases e1
    exact (d24.same m29).mod hm40 fun ⟨t, e1, _⟩ => by rw [hDo0] at e1; cases e1
  have hDlt := hD.lt
  have hDo3 : cutL o3 w40.heap.size 18 = none := by
    unfold cutL
    rw [if_pos (by have := hm2.size; omega), hl3 _ (by have := hm2.size; omega)]
    exact hDo0
  refine kcall_of (sLay_spec hD40 hP40c hDo3) ?_
  rintro v w51 ⟨rfl, o4, p4, hl4, hP51, hm51, hc51⟩
  repeat (first | refine kN_at ?_ | refine kB_at ?_ | refine kfld_of ?_ | refine kext_at rfl ?_ | refine kG_of (by first | exact rfl | omega) ?_ | refine klen_at ?_ | refine eql_at ?_ | refine neq_at ?_ | refine lss_at ?_ | refine leq_at ?_ | refine gtr_at ?_ | refine geq_at ?_ | refine add_at (by omega) (by omega) ?_ | refine sub_at (by omega) (by omega) ?_ | refine not_at ?_ | refine kO_at ?_ | refine kprt_at rfl ?_ | refine kprtN_at rfl ?_ | refine kcap_at ?_ | refine klenStr_at ?_ | refine kN_iat ?_ | refine kN_fat ?_ | refine kIf_T (by first | exact rfl | exact decT (by omega) | exact notT (decF (by omega))) ?_ | refine kIf_F (by first | exact rfl | exact decF (by omega) | exact notF (decT (by omega))) ?_)
  rw [keq_nil_nil' ifErr]
  repeat (first | refine kN_at ?_ | refine kB_at ?_ | refine kfld_of ?_ | refine kext_at rfl ?_ | refine kG_of (by first | exact rfl | omega) ?_ | refine klen_at ?_ | refine eql_at ?_ | refine neq_at ?_ | refine lss_at ?_ | refine leq_at ?_ | refine gtr_at ?_ | refine geq_at ?_ | refine add_at (by omega) (by omega) ?_ | refine sub_at (by omega) (by omega) ?_ | refine not_at ?_ | refine kO_at ?_ | refine kprt_at rfl ?_ | refine kprtN_at rfl ?_ | refine kcap_at ?_ | refine klenStr_at ?_ | refine kN_iat ?_ | refine kN_fat ?_ | refine kIf_T (by first | exact rfl | exact decT (by omega) | exact notT (decF (by omega))) ?_ | refine kIf_F (by first | exact rfl | exact decF (by omega) | exact notF (decT (by omega))) ?_)
  generalize hn : (addM S.masks (maskP L)).idxOf (maskP L) = n at *
  have hnl : n < (laidS (rollS S (S.gens.set i ((S.gens[i]).1 + 1, true)) (S.free.take K)) (maskP L)).tabs.length := by
    have e := laidS_len (S := rollS S (S.gens.set i ((S.gens[i]).1 + 1, true)) (S.free.take K)) h.tle (maskP L)
    rw [e, ← hn]; exact idx_addM_lt _ _
  have hP51 : StoreP o4 w51 b p4 (laidS (rollS S (S.gens.set i ((S.gens[i]).1 + 1, true)) (S.free.take K)) (maskP L)) := hP51
  have hsz51 := hm51.size
  have hsz2 := hm2.size
  have hunl : ∀ k, w.heap.size ≤ k → k < w29.heap.size → cutL o w.heap.size k = none ∧ cutL o3 w40.heap.size k = none ∧ o4 k = none := fun k h1 h2 => by
    have e1 := hcutn k h1
    have e2 : cutL o3 w40.heap.size k = none := by
      unfold cutL
      rw [if_pos (by omega), hl3 k h2]
      exact e1
    exact ⟨e1, e2, by rw [hl4 k (by omega)]; exact e2⟩
  have he51 := hm51.get he40 (fun ⟨t, e1, _⟩ => by rw [(hunl _ (by omega) (by omega)).2.1] at e1; cases e1)
  have hr51 := hm51.get hb40 (fun ⟨t, e1, _⟩ => by rw [(hunl _ (by omega) (by omega)).2.1] at e1; cases e1)
  have hsv51 : Own w51 sv 6 (L'.flatMap Part.cells) := by
    have hvl : ∀ k, vblk sv k → k < w12.heap.size := fun k hk => hL3.vblk_lt hk
    have g1 := hL3.mod hm24 fun k hk ⟨t, e1, _⟩ => by rw [hcutn k (by have := hf12 k hk; omega)] at e1; cases e1
    have g2 := (g1.same m29).mod hm40 fun k hk ⟨t, e1, _⟩ => by rw [hcutn k (by have := hf12 k hk; omega)] at e1; cases e1
    exact g2.mod hm51 fun k hk ⟨t, e1, _⟩ => by rw [(hunl k (by have := hf12 k hk; omega) (by have := hvl k hk; omega)).2.1] at e1; cases e1
  have hvl : ∀ k, vblk sv k → k < w12.heap.size := fun k hk => hL3.vblk_lt hk
  obtain ⟨sa, sn, sc, rfl, hsl, _⟩ := hsv51.is
  have hsn : sn = L'.length := by
    have := hsl.1
    rw [flat_len Part.cells 6 (fun _ => rfl)] at this
    omega
  subst hsn
  have hLl : L'.length = L.length := hL1.length_eq
  unfold f14_4
  repeat (first | refine kN_at ?_ | refine kB_at ?_ | refine kfld_of ?_ | refine kext_at rfl ?_ | refine kld_at he51 rfl ?_ | refine kldN_at he51 rfl (by omega) ?_ | refine kG_of (by first | exact rfl | omega) ?_ | refine klen_at ?_ | refine eql_at ?_ | refine neq_at ?_ | refine lss_at ?_ | refine leq_at ?_ | refine gtr_at ?_ | refine geq_at ?_ | refine add_at (by omega) (by omega) ?_ | refine sub_at (by omega) (by omega) ?_ | refine not_at ?_ | refine kO_at ?_ | refine kprt_at rfl ?_ | refine kprtN_at rfl ?_ | refine kcap_at ?_ | refine klenStr_at ?_ | refine kN_iat ?_ | refine kN_fat ?_ | refine kIf_T (by first | exact rfl | exact decT (by omega) | exact notT (decF (by omega))) ?_ | refine kIf_F (by first | exact rfl | exact decF (by omega) | exact notF (decT (by omega))) ?_)
  refine kcall_of (sEnter_spec (hP51.same (Mod.refl (fun _ => False) _).drew) hnl (show i < S.spots.length from hisp) ((S.gens[i]).1 + 1) (hsl.same (Mod.refl (fun _ => False) _).drew) (fun k f e => (hunl k (by have := hf12 k ⟨f, L'.length, sc, by rw [e]⟩; omega) (by have := hvl k ⟨f, L'.length, sc, by rw [e]⟩; omega)).2.2) (by omega) (fun q hq => hf q (hL1.mem_iff.1 hq)) ?_ ?_ ?_) ?_
  · intro q hq
    have hq := hL1.mem_iff.1 hq
    obtain ⟨d, e1, e2, _⟩ := hf q hq
    refine ⟨d, e1, ?_⟩
    show d ∈ compsM (addM S.masks (maskP L)) n
    unfold compsM
    rw [← hn, idx_addM]
    exact listF_mem.2 ⟨by omega, (maskP_bit S.cs hg16 L hf d).2 ⟨q, hq, e1⟩⟩
  · intro d hd
    have := ((Bnd.laid (S := rollS S (S.gens.set i ((S.gens[i]).1 + 1, true)) (S.free.take K)) hB h.tle (maskP L)) n _ (List.getElem?_eq_getElem hnl)).2 d hd
    omega
  · have := ((Bnd.laid (S := rollS S (S.gens.set i ((S.gens[i]).1 + 1, true)) (S.free.take K)) hB h.tle (maskP L)) n _ (List.getElem?_eq_getElem hnl)).1
    omega
  rintro v w60 ⟨rfl, h60⟩
  obtain ⟨o5, p5, hl5, hP5, hm5, hc5⟩ := id h60
  have ms : Same w51 w51.drew := (Mod.refl (fun _ => False) _).drew
  have he60 := hm5.get (ms.get he51 (fun h => h)) (fun ⟨t, e1, _⟩ => by rw [(hunl _ (by omega) (by omega)).2.2] at e1; cases e1)
  have hr60 := hm5.get (ms.get hr51 (fun h => h)) (fun ⟨t, e1, _⟩ => by rw [(hunl _ (by omega) (by omega)).2.2] at e1; cases e1)
  refine kG_of (kldN_at he60 rfl (by omega) ⟨rfl, rfl⟩) ?_
  refine kst_of (vs := [.int .i64 i, .int .i64 ((S.gens[i]).1 + 1)]) hr60 rfl rfl rfl (by simp) (by simp) fun w61 h61 hs61 hb61 => ?_
  have hb61 : blk w61 w.heap.size = some (.cells #[.int .i64 i, .int .i64 ((S.gens[i]).1 + 1)] 37) := hb61
  repeat (first | refine kN_at ?_ | refine kB_at ?_ | refine kfld_of ?_ | refine kext_at rfl ?_ | refine kld_at hb61 rfl ?_ | refine kldN_at hb61 rfl (by omega) ?_ | refine kG_of (by first | exact rfl | omega) ?_ | refine klen_at ?_ | refine eql_at ?_ | refine neq_at ?_ | refine lss_at ?_ | refine leq_at ?_ | refine gtr_at ?_ | refine geq_at ?_ | refine add_at (by omega) (by omega) ?_ | refine sub_at (by omega) (by omega) ?_ | refine not_at ?_ | refine kO_at ?_ | refine kprt_at rfl ?_ | refine kprtN_at rfl ?_ | refine kcap_at ?_ | refine klenStr_at ?_ | refine kN_iat ?_ | refine kN_fat ?_ | refine kIf_T (by first | exact rfl | exact decT (by omega) | exact notT (decF (by omega))) ?_ | refine kIf_F (by first | exact rfl | exact decF (by omega) | exact notF (decT (by omega))) ?_)
  refine ⟨rfl, L', hL1, hL2, ?_⟩
  refine Turned.wrap hm2 ?_ (h61.mono fun k _ e => by subst e; omega)
  refine Turned.seq (o1 := cutL o w.heap.size) (w1 := w24) (LabEq.refl _ _) ((Mod.of_same h12).trans (hm24.mono fun k _ hk => FP.mono (fun _ _ => trivial) hk)) m29 ?_
  refine Turned.seq (o1 := cutL o3 w40.heap.size) (w1 := w40) (hl3.trans (LabEq.cut _ _) hm40.size) (hm40.mono fun k _ hk => FP.mono (fun _ _ => trivial) hk) (Mod.refl _ _) ?_
  refine Turned.seq (o1 := o4) (w1 := w51) hl4 (hm51.mono fun k _ hk => FP.mono (fun _ _ => trivial) hk) ms ?_
  have h60 : Turned o4 w51.drew b _ w60 := h60
  unfold spawnS
  simp only [hn]
  exact h60
end Go.Proofs.YtlkpadfkmdgjcaaGreatDoor
end
section
set_option linter.unusedSimpArgs false
set_option linter.unusedVariables false
namespace Go.Proofs.YtlkpadfkmdgjcaaGreatDoor
open Go Go.Ev
set_option linter.unusedVariables false
set_option linter.unusedSimpArgs false
set_option maxRecDepth 100000
attribute [local irreducible] kO kB kStr kInt kN kG kIf kfld kld kldN kst knew kmap kbld kbldS kext kcnv klenStr klen kcap kprt kprtN kbool kint kstr keq kun ksl kix kiv kta kmk kmm ksem ksemU kextf kcallV kcallM kcall kL

def partAt (T : TabM) (r c : Nat) : Part := ((T.col c)[r]?).getD ⟨0, 0, 0, 0, 0, 0⟩
theorem listF_sorted (m : Nat) : (listF m).Pairwise (fun a b => a < b) := List.Pairwise.filter _ List.pairwise_lt_range
theorem compsM_sorted (ms : List Nat) (n : Nat) : (compsM ms n).Pairwise (fun a b => a < b) := by
  unfold compsM
  split
  · exact listF_sorted _
  · exact .nil
theorem compsM_nodup (ms : List Nat) (n : Nat) : (compsM ms n).Nodup := (compsM_sorted ms n).imp (fun h => by omega)
end Go.Proofs.YtlkpadfkmdgjcaaGreatDoor
end
section
set_option linter.unusedSimpArgs false
set_option linter.unusedVariables false
namespace Go.Proofs.YtlkpadfkmdgjcaaGreatDoor
open Go Go.Ev
set_option linter.unusedVariables false
set_option linter.unusedSimpArgs false
set_option maxRecDepth 100000
attribute [local irreducible] kO kB kStr kInt kN kG kIf kfld kld kldN kst knew kmap kbld kbldS kext kcnv klenStr klen kcap kprt kprtN kbool kint kstr keq kun ksl kix kiv kta kmk kmm ksem ksemU kextf kcallV kcallM kcall kL

/-! ### Parts, turned by a function value -/
theorem kcallC_of {P : Program} {f : FuncId} {args : List Value} {caps : Array Value} {w : World} {K Q : Value → World → Prop} (h : Meets P f (args.toArray ++ caps) w Q) (hk : ∀ v w', Q v w' → K v w') : kcallV P (.func (.func f) #[] caps) args w K := by
  have : Meets P f (#[] ++ args.toArray ++ caps) w K := by simpa using h.mono hk
  unfold kcallV
  exact this
/-- A list from which an element goes: those behind it move up, one by one. -/
def Moved (L M : List Part) (k t : Nat) : Prop := M.length = L.length ∧ ∀ x, M[x]? = if x < k ∨ k + t ≤ x then L[x]? else L[x + 1]?
theorem Moved.zero (L : List Part) (k : Nat) : Moved L L k 0 := ⟨rfl, fun x => by rw [if_pos (by omega)]⟩
theorem Moved.step {L M : List Part} {k t : Nat} (h : Moved L M k t) (hk : k + t + 1 < L.length) : Moved L (M.set (k + t) L[k + t + 1]) k (t + 1) := by
  obtain ⟨h1, h2⟩ := h
  refine ⟨by simpa using h1, fun x => ?_⟩
  rw [List.getElem?_set]
  by_cases hx : k + t = x
  · subst hx
    rw [if_pos rfl, if_pos (by omega), if_neg (by omega), List.getElem?_eq_getElem hk]
  · rw [if_neg hx, h2 x]
    by_cases h3 : x < k ∨ k + t ≤ x
    · rw [if_pos h3, if_pos (by omega)]
    · rw [if_neg h3, if_neg (by omega)]
theorem Moved.done {L M : List Part} {k t : Nat} (h : Moved L M k t) (hk : k + t + 1 = L.length) : M.take (L.length - 1) = L.eraseIdx k := by
  obtain ⟨h1, h2⟩ := h
  apply List.ext_getElem?
  intro x
  rw [List.getElem?_take, List.getElem?_eraseIdx, h2 x]
  by_cases hx : x < L.length - 1
  · rw [if_pos hx]
    by_cases h3 : x < k
    · rw [if_pos (.inl h3), if_pos h3]
    · rw [if_neg (by omega), if_neg h3]
  · rw [if_neg hx]
    by_cases h3 : x < k
    · omega
    · rw [if_neg h3]
      symm
      simp; omega
end Go.Proofs.YtlkpadfkmdgjcaaGreatDoor
end
section
set_option linter.unusedSimpArgs false
set_option linter.unusedVariables false
namespace Go.Proofs.YtlkpadfkmdgjcaaGreatDoor
open Go Go.Ev
set_option linter.unusedVariables false
set_option linter.unusedSimpArgs false
set_option maxRecDepth 100000
attribute [local irreducible] kO kB kStr kInt kN kG kIf kfld kld kldN kst knew kmap kbld kbldS kext kcnv klenStr klen kcap kprt kprtN kbool kint kstr keq kun ksl kix kiv kta kmk kmm ksem ksemU kextf kcallV kcallM kcall kL

end Go.Proofs.YtlkpadfkmdgjcaaGreatDoor
end
section
set_option linter.unusedSimpArgs false
set_option linter.unusedVariables false
namespace Go.Proofs.YtlkpadfkmdgjcaaGreatDoor
open Go Go.Ev
set_option linter.unusedVariables false
set_option linter.unusedSimpArgs false
set_option maxRecDepth 100000

structure WFe (S : SM) (ex : Nat → Prop) : Prop where
  gs : S.gens.length = S.spots.length
  live : ∀ i g, S.gens[i]? = some (g, true) → ¬ ex i → ∃ n r T, S.spots[i]? = some (n, r) ∧ S.tabs[n]? = some T ∧ T.rows[r]? = some ((i : Int), g)
  rows : ∀ n T r e, S.tabs[n]? = some T → T.rows[r]? = some e → ∃ i : Nat, e.1 = (i : Int) ∧ ¬ ex i ∧ S.gens[i]? = some (e.2, true) ∧ S.spots[i]? = some (n, r)
  cols : ∀ n T c, S.tabs[n]? = some T → c ∈ compsM S.masks n → (T.col c).length = T.rows.length
def WF (S : SM) : Prop := WFe S fun _ => False
/-- The parts of who stands at a spot. -/
def partsOf (S : SM) (i : Nat) : List Part := match S.spots[i]? with
  | some (n, r) => match S.tabs[n]? with
    | some T => (compsM S.masks n).map (partAt T r)
    | none => []
  | none => []
theorem partsOf_eq {S : SM} {i n r : Nat} {T : TabM} (h : S.spots[i]? = some (n, r)) (hT : S.tabs[n]? = some T) : partsOf S i = (compsM S.masks n).map (partAt T r) := by
  unfold partsOf; simp [h, hT]
theorem WFe.rows_le {S : SM} {ex : Nat → Prop} (h : WFe S ex) {n : Nat} {T : TabM} (hT : S.tabs[n]? = some T) : T.rows.length ≤ S.spots.length := by
  have hnd : ((List.range T.rows.length).map fun r => ((T.rows[r]?).getD (0, 0)).1.toNat).Nodup := by
    unfold List.Nodup
    rw [List.pairwise_map]
    refine List.nodup_range.imp_of_mem fun {a b} ha hb hab e => ?_
    have ha : a < T.rows.length := by simpa using ha
    have hb : b < T.rows.length := by simpa using hb
    obtain ⟨i, e1, _, _, s1⟩ := h.rows n T a _ hT (List.getElem?_eq_getElem ha)
    obtain ⟨j, e2, _, _, s2⟩ := h.rows n T b _ hT (List.getElem?_eq_getElem hb)
    simp only [List.getElem?_eq_getElem ha, List.getElem?_eq_getElem hb, Option.getD_some, e1, e2, Int.toNat_natCast] at e
    subst e
    rw [s1] at s2
    cases s2
    exact hab rfl
  have := List.Nodup.length_le_of_subset hnd (l₂ := List.range S.spots.length) (fun x hx => by
    obtain ⟨r, hr, rfl⟩ := List.mem_map.1 hx
    have hr : r < T.rows.length := by simpa using hr
    obtain ⟨i, e1, _, _, s1⟩ := h.rows n T r _ hT (List.getElem?_eq_getElem hr)
    simp only [List.getElem?_eq_getElem hr, Option.getD_some, e1, Int.toNat_natCast]
    simpa using (List.getElem?_eq_some_iff.1 s1).1)
  simpa using this
end Go.Proofs.YtlkpadfkmdgjcaaGreatDoor
end
section
set_option linter.unusedSimpArgs false
set_option linter.unusedVariables false
namespace Go.Proofs.YtlkpadfkmdgjcaaGreatDoor
open Go Go.Ev
set_option linter.unusedVariables false
set_option linter.unusedSimpArgs false
set_option maxRecDepth 100000

theorem filt_parts (z : Part) : ∀ (comps : List Nat) (L : List Part), L.map (·.comp) = comps.map (fun c : Nat => (c : Int)) → comps.Nodup →
    (∀ c ∈ comps, (L.filter fun q => decide (q.comp = (c : Int))).length = 1) ∧ comps.map (fun c : Nat => ((L.filter fun q => decide (q.comp = (c : Int)))[0]?).getD z) = L
  | [], L, h, _ => by
    cases L with
    | nil => simp
    | cons q L => simp at h
  | c :: cs, [], h, _ => by simp at h
  | c :: cs, q :: L, h, hn => by
    rw [List.map_cons, List.map_cons, List.cons.injEq] at h
    rw [List.nodup_cons] at hn
    obtain ⟨i1, i2⟩ := filt_parts z cs L h.2 hn.2
    have hq : decide (q.comp = (c : Int)) = true := decide_eq_true h.1
    have hd : ∀ d ∈ cs, decide (q.comp = (d : Int)) = false := fun d hd => decide_eq_false fun e => by
      have : d = c := by have := h.1; omega
      subst this; exact hn.1 hd
    have hL : L.filter (fun q => decide (q.comp = (c : Int))) = [] := by
      rw [List.filter_eq_nil_iff]
      intro x hx
      have hm : x.comp ∈ cs.map (fun c : Nat => (c : Int)) := h.2 ▸ List.mem_map.2 ⟨x, hx, rfl⟩
      obtain ⟨d, hdm, e⟩ := List.mem_map.1 hm
      have : ¬ x.comp = (c : Int) := fun e2 => by
        have : d = c := by omega
        subst this; exact hn.1 hdm
      simpa using this
    refine ⟨fun d hdm => ?_, ?_⟩
    · rcases List.mem_cons.1 hdm with rfl | hdm
      · rw [List.filter_cons_of_pos (by simpa using hq), hL]; rfl
      · rw [List.filter_cons_of_neg (by simpa using hd d hdm)]; exact i1 d hdm
    · rw [List.map_cons, List.filter_cons_of_pos (by simpa using hq)]
      congr 1
      refine Eq.trans (List.map_congr_left fun d hdm => ?_) i2
      rw [List.filter_cons_of_neg (by simpa using hd d hdm)]
theorem enterS_tabs {S : SM} {n i : Nat} {g : Int} {L : List Part} (hn : n < S.tabs.length) (k : Nat) : (enterS S n i g L hn).tabs[k]? = if k = n then some ⟨S.tabs[n].rows ++ [((i : Int), g)], (pushC S.tabs[n] L).col⟩ else S.tabs[k]? := by
  unfold enterS
  rw [List.getElem?_set]
  by_cases h : n = k
  · subst h; rw [if_pos rfl, if_pos hn, if_pos rfl]
  · rw [if_neg h, if_neg (fun e => h e.symm)]
theorem enterS_spots {S : SM} {n i : Nat} {g : Int} {L : List Part} (hn : n < S.tabs.length) (hi : i < S.spots.length) (k : Nat) : (enterS S n i g L hn).spots[k]? = if k = i then some (n, S.tabs[n].rows.length) else S.spots[k]? := by
  unfold enterS
  rw [List.getElem?_set]
  by_cases h : i = k
  · subst h; rw [if_pos rfl, if_pos hi, if_pos rfl]
  · rw [if_neg h, if_neg (fun e => h e.symm)]
theorem WFe.enter {S : SM} {i : Nat} (h : WFe S (· = i)) {g : Int} (hg : S.gens[i]? = some (g, true)) {n : Nat} (hn : n < S.tabs.length) {L : List Part} (hLc : L.map (·.comp) = (compsM S.masks n).map (fun c : Nat => (c : Int))) :
    WF (enterS S n i g L hn) ∧ partsOf (enterS S n i g L hn) i = L ∧ ∀ j gj, j ≠ i → S.gens[j]? = some (gj, true) → partsOf (enterS S n i g L hn) j = partsOf S j := by
  have hi : i < S.spots.length := by rw [← h.gs]; exact (List.getElem?_eq_some_iff.1 hg).1
  have hTn : S.tabs[n]? = some S.tabs[n] := List.getElem?_eq_getElem hn
  have hT' := enterS_tabs (i := i) (g := g) (L := L) hn
  have hS' := enterS_spots (g := g) (L := L) hn hi
  obtain ⟨f1, f2⟩ := filt_parts ⟨0, 0, 0, 0, 0, 0⟩ _ L hLc (compsM_nodup S.masks n)
  have key : ∀ j gj, j ≠ i → S.gens[j]? = some (gj, true) → ∃ n' r' T', (enterS S n i g L hn).spots[j]? = some (n', r') ∧ (enterS S n i g L hn).tabs[n']? = some T' ∧ T'.rows[r']? = some ((j : Int), gj) ∧
      ∃ T0, S.spots[j]? = some (n', r') ∧ S.tabs[n']? = some T0 ∧ ∀ c ∈ compsM S.masks n', (T'.col c)[r']? = (T0.col c)[r']? := by
    intro j gj hj hgj
    obtain ⟨n', r', T', h1, h2, h3⟩ := h.live j gj hgj hj
    by_cases hnn : n' = n
    · subst hnn
      rw [hTn] at h2; cases h2
      have hr'l := (List.getElem?_eq_some_iff.1 h3).1
      refine ⟨n', r', _, by rw [hS', if_neg hj]; exact h1, by rw [hT', if_pos rfl], ?_, _, h1, hTn, fun c hc => ?_⟩
      · show (S.tabs[n'].rows ++ _)[r']? = _
        rw [List.getElem?_append_left hr'l]; exact h3
      · show (S.tabs[n'].col c ++ _)[r']? = _
        rw [List.getElem?_append_left (by rw [h.cols n' _ c hTn hc]; exact hr'l)]
    · exact ⟨n', r', T', by rw [hS', if_neg hj]; exact h1, by rw [hT', if_neg hnn]; exact h2, h3, T', h1, h2, fun c _ => rfl⟩
  refine ⟨⟨?_, ?_, ?_, ?_⟩, ?_, ?_⟩
  · show S.gens.length = (S.spots.set i _).length
    rw [List.length_set]; exact h.gs
  · intro j gj hgj _
    by_cases hj : j = i
    · subst hj
      have : S.gens[j]? = some (gj, true) := hgj
      rw [hg] at this; cases this
      refine ⟨n, S.tabs[n].rows.length, _, by rw [hS', if_pos rfl], by rw [hT', if_pos rfl], ?_⟩
      show (S.tabs[n].rows ++ _)[_]? = _
      rw [List.getElem?_append_right (by omega)]; simp
    · obtain ⟨n', r', T', k1, k2, k3, _⟩ := key j gj hj hgj
      exact ⟨n', r', T', k1, k2, k3⟩
  · intro n' T' r' e hTq hre
    rw [hT'] at hTq
    by_cases hnn : n' = n
    · subst hnn
      rw [if_pos rfl] at hTq
      cases hTq
      have hre : (S.tabs[n'].rows ++ [((i : Int), g)])[r']? = some e := hre
      rcases Nat.lt_or_ge r' S.tabs[n'].rows.length with hlt | hge
      · rw [List.getElem?_append_left hlt] at hre
        obtain ⟨j, e1, e2, e3, e4⟩ := h.rows n' _ _ _ hTn hre
        exact ⟨j, e1, fun h => h, e3, by rw [hS', if_neg e2]; exact e4⟩
      · rw [List.getElem?_append_right hge] at hre
        have h0 : r' - S.tabs[n'].rows.length = 0 := by
          have := (List.getElem?_eq_some_iff.1 hre).1
          simp at this; omega
        rw [h0] at hre
        simp at hre
        subst hre
        exact ⟨i, rfl, fun h => h, hg, by rw [hS', if_pos rfl, show r' = S.tabs[n'].rows.length by omega]⟩
    · rw [if_neg hnn] at hTq
      obtain ⟨j, e1, e2, e3, e4⟩ := h.rows n' _ _ _ hTq hre
      exact ⟨j, e1, fun h => h, e3, by rw [hS', if_neg e2]; exact e4⟩
  · intro n' T' c hTq hc
    rw [hT'] at hTq
    by_cases hnn : n' = n
    · subst hnn
      rw [if_pos rfl] at hTq
      cases hTq
      have hcl := h.cols n' _ c hTn hc
      have := f1 c hc
      show (S.tabs[n'].col c ++ L.filter _).length = (S.tabs[n'].rows ++ _).length
      rw [List.length_append, List.length_append, hcl, this]; rfl
    · rw [if_neg hnn] at hTq
      exact h.cols n' _ c hTq hc
  · have k1 := hS' i
    rw [if_pos rfl] at k1
    have k2 := hT' n
    rw [if_pos rfl] at k2
    rw [partsOf_eq k1 k2]
    refine Eq.trans (List.map_congr_left fun c hc => ?_) f2
    have hcl := h.cols n _ c hTn hc
    show ((S.tabs[n].col c ++ L.filter _)[S.tabs[n].rows.length]?).getD _ = _
    rw [List.getElem?_append_right (by omega), hcl, Nat.sub_self]
  · intro j gj hj hgj
    obtain ⟨n', r', T', k1, k2, k3, T0, k4, k5, k6⟩ := key j gj hj hgj
    rw [partsOf_eq k1 k2, partsOf_eq k4 k5]
    refine List.map_congr_left fun c hc => ?_
    unfold partAt
    rw [k6 c hc]
theorem WFe.masks {S : SM} {ex : Nat → Prop} (h : WFe S ex) (ht : S.tabs.length ≤ S.masks.length) (m : Nat) : WFe { S with masks := addM S.masks m } ex ∧ ∀ j gj, ¬ ex j → S.gens[j]? = some (gj, true) → partsOf { S with masks := addM S.masks m } j = partsOf S j := by
  refine ⟨⟨h.gs, h.live, h.rows, fun n T c hT hc => ?_⟩, fun j gj hj hgj => ?_⟩
  · have hn : n < S.tabs.length := (List.getElem?_eq_some_iff.1 hT).1
    refine h.cols n T c hT ?_
    rw [← compsM_addM (m := m) (by omega)]; exact hc
  · obtain ⟨n, r, T, h1, h2, h3⟩ := h.live j gj hgj hj
    have hn := (List.getElem?_eq_some_iff.1 h2).1
    rw [partsOf_eq (S := { S with masks := addM S.masks m }) h1 h2, partsOf_eq h1 h2]
    show (compsM (addM S.masks m) n).map _ = _
    rw [compsM_addM (by omega)]
theorem layS_tabs {S : SM} {k n : Nat} {T : TabM} (h : (layS S k).tabs[n]? = some T) : S.tabs[n]? = some T ∨ T = TabM.empty := by
  unfold layS at h
  rcases Nat.lt_or_ge n S.tabs.length with hn | hn
  · rw [List.getElem?_append_left hn] at h; exact .inl h
  · rw [List.getElem?_append_right hn] at h
    have := (List.getElem?_eq_some_iff.1 h)
    obtain ⟨h1, h2⟩ := this
    rw [List.getElem_replicate] at h2
    exact .inr h2.symm
theorem WFe.lay {S : SM} {ex : Nat → Prop} (h : WFe S ex) (k : Nat) : WFe (layS S k) ex ∧ ∀ j gj, ¬ ex j → S.gens[j]? = some (gj, true) → partsOf (layS S k) j = partsOf S j := by
  have hup : ∀ {n T}, S.tabs[n]? = some T → (layS S k).tabs[n]? = some T := fun {n T} e => by
    unfold layS
    rw [List.getElem?_append_left (List.getElem?_eq_some_iff.1 e).1]; exact e
  refine ⟨⟨h.gs, fun i g hg hx => ?_, fun n T r e hT hr => ?_, fun n T c hT hc => ?_⟩, fun j gj hj hgj => ?_⟩
  · obtain ⟨n, r, T, h1, h2, h3⟩ := h.live i g hg hx
    exact ⟨n, r, T, h1, hup h2, h3⟩
  · rcases layS_tabs hT with hT | rfl
    · exact h.rows n T r e hT hr
    · cases hr
  · rcases layS_tabs hT with hT | rfl
    · exact h.cols n T c hT hc
    · rfl
  · obtain ⟨n, r, T, h1, h2, h3⟩ := h.live j gj hgj hj
    rw [partsOf_eq (S := layS S k) h1 (hup h2), partsOf_eq h1 h2]; rfl
theorem WFe.born {S : SM} (h : WF S) {i : Nat} {g0 g1 : Int} (hg : S.gens[i]? = some (g0, false)) (free : List Nat) : WFe (rollS S (S.gens.set i (g1, true)) free) (· = i) := by
  have hi := (List.getElem?_eq_some_iff.1 hg).1
  have hne : ∀ j, j ≠ i → (S.gens.set i (g1, true))[j]? = S.gens[j]? := fun j hj => by rw [List.getElem?_set_ne (fun e => hj e.symm)]
  refine ⟨by show (S.gens.set i _).length = _; rw [List.length_set]; exact h.gs, fun j g hgj hj => ?_, fun n T r e hT hr => ?_, h.cols⟩
  · have hgj : (S.gens.set i (g1, true))[j]? = some (g, true) := hgj
    rw [hne j hj] at hgj
    exact h.live j g hgj (fun h => h)
  · obtain ⟨j, e1, _, e3, e4⟩ := h.rows n T r e hT hr
    have hj : j ≠ i := fun e => by subst e; rw [hg] at e3; cases e3
    exact ⟨j, e1, hj, by show (S.gens.set i (g1, true))[j]? = _; rw [hne j hj]; exact e3, e4⟩
theorem comps_sorted {S : SM} (hcs : S.cs.length ≤ 16) {L L' : List Part} (hf : ∀ q ∈ L, FitsP S.cs q) (hnt : NoTwice L) (hp : L'.Perm L) (hs : L'.Pairwise (fun x y => x.comp ≤ y.comp)) : L'.map (·.comp) = (listF (maskP L)).map (fun c : Nat => (c : Int)) := by
  refine List.Perm.eq_of_pairwise (le := fun x y : Int => x ≤ y) (fun a b _ _ h1 h2 => by omega) ?_ ?_ ?_
  · rw [List.pairwise_map]; exact hs
  · rw [List.pairwise_map]; exact (listF_sorted _).imp (fun h => by omega)
  · refine (hp.map _).trans ((List.perm_ext_iff_of_nodup hnt ?_).2 fun a => ?_)
    · unfold List.Nodup
      rw [List.pairwise_map]
      exact (listF_nodup _).imp (fun h e => h (by omega))
    · rw [List.mem_map, List.mem_map]
      constructor
      · rintro ⟨q, hq, rfl⟩
        obtain ⟨d, e1, e2, _⟩ := hf q hq
        exact ⟨d, listF_mem.2 ⟨by omega, (maskP_bit S.cs hcs L hf d).2 ⟨q, hq, e1⟩⟩, e1.symm⟩
      · rintro ⟨d, hd, rfl⟩
        obtain ⟨q, hq, e⟩ := (maskP_bit S.cs hcs L hf d).1 (listF_mem.1 hd).2
        exact ⟨q, hq, e⟩
end Go.Proofs.YtlkpadfkmdgjcaaGreatDoor
end
section
set_option linter.unusedSimpArgs false
set_option linter.unusedVariables false
namespace Go.Proofs.YtlkpadfkmdgjcaaGreatDoor
open Go Go.Ev
set_option linter.unusedVariables false
set_option linter.unusedSimpArgs false
set_option maxRecDepth 100000

def FreeOk (S : SM) : Prop := S.free.Nodup ∧ ∀ i, i ∈ S.free ↔ ∃ g, S.gens[i]? = some (g, false)
/-- A store behind at most t acts. -/
structure GS (S : SM) (t : Nat) : Prop where
  wf : WF S
  fr : FreeOk S
  gen : ∀ (i : Nat) (x : Int × Bool), S.gens[i]? = some x → 0 ≤ x.1 ∧ x.1 ≤ (t : Int)
  ml : S.masks.length ≤ t + 1
  g64 : S.gens.length ≤ 64
theorem addM_len (ms : List Nat) (m : Nat) : ms.length ≤ (addM ms m).length ∧ (addM ms m).length ≤ ms.length + 1 := by
  unfold addM; split <;> simp
theorem GS.bnd {S : SM} {t : Nat} (h : GS S t) : Bnd S := by
  intro n T hT
  have h1 := h.wf.rows_le hT
  have h2 := h.wf.gs
  have h3 := h.g64
  refine ⟨by omega, fun c hc => ?_⟩
  rw [h.wf.cols n T c hT hc]; omega
/-- What a Spawn leaves. -/
structure Born (S S' : SM) (L' : List Part) (i : Nat) (g : Int) : Prop where
  gens : S'.gens = S.gens.set i (g, true)
  cs : S'.cs = S.cs
  masks : S'.masks = addM S.masks (maskP L')
  tabs : S'.tabs.length = S'.masks.length
  free : S'.free = S.free.dropLast
  parts : partsOf S' i = L'
  others : ∀ j gj, j ≠ i → S.gens[j]? = some (gj, true) → partsOf S' j = partsOf S j
theorem maskP_perm {cs : List Comp} (hcs : cs.length ≤ 16) {L L' : List Part} (hp : L'.Perm L) (hf : ∀ q ∈ L, FitsP cs q) : maskP L' = maskP L := by
  have hf' : ∀ q ∈ L', FitsP cs q := fun q hq => hf q (hp.mem_iff.1 hq)
  apply Nat.eq_of_testBit_eq
  intro c
  rw [Bool.eq_iff_iff, maskP_bit cs hcs L' hf' c, maskP_bit cs hcs L hf c]
  exact ⟨fun ⟨q, h, e⟩ => ⟨q, hp.mem_iff.1 h, e⟩, fun ⟨q, h, e⟩ => ⟨q, hp.mem_iff.2 h, e⟩⟩
theorem GS.spawn {S : SM} {t : Nat} (h : GS S t) (ht : S.tabs.length ≤ S.masks.length) (hcs : S.cs.length ≤ 16) {K i : Nat} {g0 : Int} (hK : K + 1 = S.free.length) (hi : S.free[K]'(by omega) = i) (hg : S.gens[i]? = some (g0, false))
    {L L' : List Part} (hf : ∀ q ∈ L, FitsP S.cs q) (hnt : NoTwice L) (hp : L'.Perm L) (hs : L'.Pairwise (fun x y => x.comp ≤ y.comp)) :
    GS (spawnS S (maskP L) i (g0 + 1) L' ht (S.gens.set i (g0 + 1, true)) (S.free.take K)) (t + 1) ∧ Born S (spawnS S (maskP L) i (g0 + 1) L' ht (S.gens.set i (g0 + 1, true)) (S.free.take K)) L' i (g0 + 1) := by
  have hil := (List.getElem?_eq_some_iff.1 hg).1
  have w1 := WFe.born h.wf hg (g1 := g0 + 1) (S.free.take K)
  obtain ⟨w2, v2⟩ := w1.masks ht (maskP L)
  obtain ⟨w3, v3⟩ := w2.lay ((addM S.masks (maskP L)).length - S.tabs.length)
  have hn : (addM S.masks (maskP L)).idxOf (maskP L) < (laidS (rollS S (S.gens.set i (g0 + 1, true)) (S.free.take K)) (maskP L)).tabs.length := by
    have e := laidS_len (S := rollS S (S.gens.set i (g0 + 1, true)) (S.free.take K)) ht (maskP L)
    rw [e]; exact idx_addM_lt _ _
  have hgi : (laidS (rollS S (S.gens.set i (g0 + 1, true)) (S.free.take K)) (maskP L)).gens[i]? = some (g0 + 1, true) := by
    show (S.gens.set i (g0 + 1, true))[i]? = _
    rw [List.getElem?_set, if_pos rfl, if_pos hil]
  have hLc : L'.map (·.comp) = (compsM (laidS (rollS S (S.gens.set i (g0 + 1, true)) (S.free.take K)) (maskP L)).masks ((addM S.masks (maskP L)).idxOf (maskP L))).map (fun c : Nat => (c : Int)) := by
    show _ = (compsM (addM S.masks (maskP L)) _).map _
    unfold compsM
    rw [idx_addM]
    exact comps_sorted hcs hf hnt hp hs
  obtain ⟨w4, v4, v5⟩ := WFe.enter w3 hgi hn hLc
  have hlen : (spawnS S (maskP L) i (g0 + 1) L' ht (S.gens.set i (g0 + 1, true)) (S.free.take K)).tabs.length = (addM S.masks (maskP L)).length := by
    have e := laidS_len (S := rollS S (S.gens.set i (g0 + 1, true)) (S.free.take K)) ht (maskP L)
    show (List.set _ _ _).length = _
    rw [List.length_set]; exact e
  have hfl : S.free.take K = S.free.dropLast := by rw [List.dropLast_eq_take, show S.free.length - 1 = K by omega]
  have hsp : S.free = S.free.take K ++ [i] := by
    have := List.take_append_drop K S.free
    rw [List.drop_eq_getElem_cons (by omega), hi, List.drop_eq_nil_of_le (by omega)] at this
    exact this.symm
  refine ⟨⟨w4, ⟨?_, fun j => ?_⟩, fun j x hx => ?_, ?_, ?_⟩, ⟨rfl, rfl, ?_, hlen, hfl, v4, fun j gj hj hgj => ?_⟩⟩
  · exact h.fr.1.sublist (List.take_sublist _ _)
  · show j ∈ S.free.take K ↔ ∃ g, (S.gens.set i (g0 + 1, true))[j]? = some (g, false)
    have hnd := h.fr.1
    rw [hsp] at hnd
    have hin : i ∉ S.free.take K := fun hm => by
      have := (List.nodup_append.1 hnd).2.2 i hm i (by simp)
      exact this rfl
    by_cases hj : j = i
    · subst hj
      rw [List.getElem?_set, if_pos rfl, if_pos hil]
      exact ⟨fun h => absurd h hin, fun ⟨g, e⟩ => by cases e⟩
    · rw [List.getElem?_set_ne (fun e => hj e.symm), ← h.fr.2 j]
      constructor
      · intro hm; exact List.mem_of_mem_take hm
      · intro hm
        rw [hsp] at hm
        rcases List.mem_append.1 hm with hm | hm
        · exact hm
        · simp at hm; exact absurd hm hj
  · have hx : (S.gens.set i (g0 + 1, true))[j]? = some x := hx
    by_cases hj : j = i
    · subst hj
      rw [List.getElem?_set, if_pos rfl, if_pos hil] at hx
      cases hx
      have := h.gen j _ hg
      simp at this ⊢; omega
    · rw [List.getElem?_set_ne (fun e => hj e.symm)] at hx
      have := h.gen j x hx
      push_cast; omega
  · have := addM_len S.masks (maskP L)
    have h2 := h.ml
    show (addM S.masks (maskP L)).length ≤ _
    omega
  · show (S.gens.set i _).length ≤ 64
    rw [List.length_set]; exact h.g64
  · show addM S.masks (maskP L) = addM S.masks (maskP L')
    rw [maskP_perm hcs hp hf]
  · have hgj' : (S.gens.set i (g0 + 1, true))[j]? = some (gj, true) := by rw [List.getElem?_set_ne (fun e => hj e.symm)]; exact hgj
    refine (v5 j gj hj hgj').trans ((v3 j gj hj hgj').trans ((v2 j gj hj hgj').trans rfl))
theorem spawn_at {o : Lab} {w : World} (hD : DeAt w) {b : Nat} {p : Ptrs} {S : SM} (h : StoreP o w b p S) (hDo : o 18 = none) {t : Nat} (hG : GS S t) (ht : t ≤ 10000) (hfree : S.free ≠ [])
    {L : List Part} {a : Option Addr} {c : Nat} (hs : SlIs w a L.length 6 (L.flatMap Part.cells)) (hLb : ∀ k f, a = some ⟨k, f, none⟩ → o k = none) (hn16 : L.length ≤ 64) (hf : ∀ q ∈ L, FitsP S.cs q) (hnt : NoTwice L) :
    Meets Tryz.prog 14 #[ptrV b, .slice a L.length c] w fun v w' => ∃ (i : Nat) (g0 : Int) (L' : List Part) (S' : SM), S.free.getLast? = some i ∧ S.gens[i]? = some (g0, false) ∧ v = .tuple #[entV i (g0 + 1), .nilIface] ∧ L'.Perm L ∧ L'.Pairwise (fun x y => x.comp ≤ y.comp) ∧
      GS S' (t + 1) ∧ Born S S' L' i (g0 + 1) ∧ Turned o w b S' w' := by
  have hlen : 0 < S.free.length := List.length_pos_iff.2 hfree
  obtain ⟨K, hK⟩ : ∃ K, K + 1 = S.free.length := ⟨S.free.length - 1, by omega⟩
  have hKl : K < S.free.length := by omega
  obtain ⟨g0, hg⟩ := (hG.fr.2 _).1 (List.getElem_mem hKl)
  obtain ⟨hlt, hge⟩ := List.getElem?_eq_some_iff.1 hg
  have hb := hG.gen _ _ hg
  have hml := hG.ml
  refine (sSpawn_spec hD h hDo hK (i := S.free[K]) rfl hlt (by rw [hge]; simp at hb ⊢; omega) (by rw [← hG.wf.gs]; exact hlt) (by omega) hG.bnd hs hLb hn16 hf hnt).mono ?_
  rintro v w' ⟨rfl, L', h1, h2, h3⟩
  have hg' : (S.gens[S.free[K]]).1 = g0 := by rw [hge]
  rw [hg'] at h3
  obtain ⟨k1, k2⟩ := hG.spawn h.tle h.good.1 hK rfl hg hf hnt h1 h2
  refine ⟨S.free[K], g0, L', _, ?_, hg, by rw [hg'], h1, h2, k1, k2, h3⟩
  rw [List.getLast?_eq_getElem?, show S.free.length - 1 = K by omega, List.getElem?_eq_getElem hKl]
end Go.Proofs.YtlkpadfkmdgjcaaGreatDoor
end
section
set_option linter.unusedSimpArgs false
set_option linter.unusedVariables false
namespace Go.Proofs.YtlkpadfkmdgjcaaGreatDoor
open Go Go.Ev
set_option linter.unusedVariables false
set_option linter.unusedSimpArgs false
set_option maxRecDepth 100000

end Go.Proofs.YtlkpadfkmdgjcaaGreatDoor
end
section
set_option linter.unusedSimpArgs false
set_option linter.unusedVariables false
namespace Go.Proofs.YtlkpadfkmdgjcaaGreatDoor
open Go Go.Ev
set_option linter.unusedVariables false
set_option linter.unusedSimpArgs false
set_option maxRecDepth 100000
attribute [local irreducible] kO kB kStr kInt kN kG kIf kfld kld kldN kst knew kmap kbld kbldS kext kcnv klenStr klen kcap kprt kprtN kbool kint kstr keq kun ksl kix kiv kta kmk kmm ksem ksemU kextf kcallV kcallM kcall kL

theorem comps_mask {cs : List Comp} (hcs : cs.length ≤ 16) {P : List Part} (hf : ∀ q ∈ P, FitsP cs q) {m : Nat} (hm : m < 2 ^ cs.length) (hc : P.map (·.comp) = (listF m).map (fun c : Nat => (c : Int))) : maskP P = m := by
  apply Nat.eq_of_testBit_eq
  intro c
  rw [Bool.eq_iff_iff, maskP_bit cs hcs P hf c]
  constructor
  · rintro ⟨q, hq, e⟩
    have h1 : q.comp ∈ (listF m).map (fun c : Nat => (c : Int)) := hc ▸ List.mem_map.2 ⟨q, hq, rfl⟩
    obtain ⟨d, hd, e2⟩ := List.mem_map.1 h1
    have : d = c := by omega
    subst this
    exact (listF_mem.1 hd).2
  · intro hb
    have hcl : c < cs.length := by
      rcases Nat.lt_or_ge c cs.length with h | h
      · exact h
      · have : m < 2 ^ c := Nat.lt_of_lt_of_le hm (Nat.pow_le_pow_right (by omega) h)
        rw [Nat.testBit_lt_two_pow this] at hb; cases hb
    have h1 : (c : Int) ∈ P.map (·.comp) := hc ▸ List.mem_map.2 ⟨c, listF_mem.2 ⟨by omega, hb⟩, rfl⟩
    obtain ⟨q, hq, e⟩ := List.mem_map.1 h1
    exact ⟨q, hq, e⟩
/-- What an entity's parts are like. -/
theorem parts_ok {o : Lab} {w : World} {b : Nat} {p : Ptrs} {S : SM} (h : StoreP o w b p S) {t : Nat} (hG : GS S t) {i : Nat} {g : Int} (hg : S.gens[i]? = some (g, true)) :
    ∃ n r, S.spots[i]? = some (n, r) ∧ ∃ hn : n < S.tabs.length, ∃ hnm : n < S.masks.length, (∀ c ∈ compsM S.masks n, r < (S.tabs[n].col c).length) ∧ partsOf S i = (compsM S.masks n).map (partAt S.tabs[n] r) ∧ compsM S.masks n = listF S.masks[n] ∧
      (partsOf S i).map (·.comp) = (listF S.masks[n]).map (fun c : Nat => (c : Int)) ∧ (∀ q ∈ partsOf S i, FitsP S.cs q) ∧ maskP (partsOf S i) = S.masks[n] ∧ S.masks[n] < 2 ^ S.cs.length ∧ ∀ c ∈ compsM S.masks n, (partAt S.tabs[n] r c).comp = (c : Int) := by
  obtain ⟨n, r, T, h1, h2, h3⟩ := hG.wf.live i g hg (fun h => h)
  obtain ⟨hn, e⟩ := List.getElem?_eq_some_iff.1 h2
  subst e
  have hr := (List.getElem?_eq_some_iff.1 h3).1
  have hnm : n < S.masks.length := Nat.lt_of_lt_of_le hn h.tle
  have hcol : ∀ c ∈ compsM S.masks n, r < (S.tabs[n].col c).length := fun c hc => by rw [hG.wf.cols n _ c h2 hc]; exact hr
  have hpe := partsOf_eq h1 h2
  have hce : compsM S.masks n = listF S.masks[n] := by unfold compsM; rw [List.getElem?_eq_getElem hnm]
  have hmk := mk_of h _ (List.getElem_mem hnm)
  have hcomp : ∀ c ∈ compsM S.masks n, (partAt S.tabs[n] r c).comp = (c : Int) ∧ (partAt S.tabs[n] r c).clean (wdF S.cs c) := fun c hc => by
    obtain ⟨_, _, _, _, _, h6, _⟩ := (h.tab n hn).col hc
    have := h6 _ (List.getElem_mem (hcol c hc))
    simp only [partAt, List.getElem?_eq_getElem (hcol c hc), Option.getD_some]
    exact this
  have hmap : (partsOf S i).map (·.comp) = (listF S.masks[n]).map (fun c : Nat => (c : Int)) := by
    rw [hpe, List.map_map, hce]
    exact List.map_congr_left fun c hc => (hcomp c (hce ▸ hc)).1
  have hfit : ∀ q ∈ partsOf S i, FitsP S.cs q := fun q hq => by
    rw [hpe] at hq
    obtain ⟨c, hc, rfl⟩ := List.mem_map.1 hq
    obtain ⟨e1, e2⟩ := hcomp c hc
    exact ⟨c, e1, listF_lt hmk (hce ▸ hc), e2⟩
  exact ⟨n, r, h1, hn, hnm, hcol, hpe, hce, hmap, hfit, comps_mask h.good.1 hfit hmk hmap, hmk, fun c hc => (hcomp c hc).1⟩
end Go.Proofs.YtlkpadfkmdgjcaaGreatDoor
end
section
set_option linter.unusedSimpArgs false
set_option linter.unusedVariables false
namespace Go.Proofs.YtlkpadfkmdgjcaaGreatDoor
open Go Go.Ev
set_option linter.unusedVariables false
set_option linter.unusedSimpArgs false
set_option maxRecDepth 100000
attribute [local irreducible] kO kB kStr kInt kN kG kIf kfld kld kldN kst knew kmap kbld kbldS kext kcnv klenStr klen kcap kprt kprtN kbool kint kstr keq kun ksl kix kiv kta kmk kmm ksem ksemU kextf kcallV kcallM kcall kL

/-! ### Who matches, who was changed -/
def rowsOf (S : SM) (n : Nat) : List (Int × Int) := match S.tabs[n]? with
  | some T => T.rows
  | none => []
theorem rowsOf_eq {S : SM} {n : Nat} (hn : n < S.tabs.length) : rowsOf S n = S.tabs[n].rows := by
  unfold rowsOf; rw [List.getElem?_eq_getElem hn]
theorem flat_take_succ {α β : Type} (f : α → List β) (l : List α) (j : Nat) (h : j < l.length) : (l.take (j + 1)).flatMap f = (l.take j).flatMap f ++ f l[j] := by
  rw [List.take_add_one, List.getElem?_eq_getElem h, List.flatMap_append]; simp
theorem flat_le {α β : Type} (f : α → List β) (K : Nat) : ∀ (l : List α), (∀ x ∈ l, (f x).length ≤ K) → (l.flatMap f).length ≤ l.length * K
  | [], _ => by simp
  | x :: l, h => by
    have h1 := h x (by simp)
    have h2 := flat_le f K l (fun y hy => h y (by simp [hy]))
    rw [List.flatMap_cons, List.length_append, List.length_cons, Nat.add_mul]; omega
theorem apEnts : appT Tryz.prog 42 2 16 = true := by kernel_rfl
theorem matchL_lt {wi wo : Nat} {masks : List Nat} {n : Nat} (h : n ∈ matchL wi wo masks) : n < masks.length := by
  unfold matchL at h
  obtain ⟨⟨m, k⟩, hx, rfl⟩ := List.mem_map.1 h
  have := List.mem_zipIdx (List.mem_filter.1 hx).1
  simp at this; omega
theorem sMatch_spec {o : Lab} {w : World} {b : Nat} {p : Ptrs} {S : SM} (h : StoreP o w b p S) (hml : S.tabs.length = S.masks.length) (hr : ∀ n, (rowsOf S n).length ≤ 64) (wi wo : Nat) (hwi : wi < 4294967296) (hwo : wo < 4294967296) :
    Meets Tryz.prog 16 #[ptrV b, msk wi, msk wo] w fun v w' => ∃ L' : List (Int × Int), L'.Perm ((matchL wi wo S.masks).flatMap (rowsOf S)) ∧ L'.Pairwise (fun x y => x.1 ≤ y.1) ∧ Own w' v 2 (L'.flatMap entC) ∧ Same w w' ∧ ∀ k, vblk v k → w.heap.size ≤ k := by
  have hb := h.here
  have hm90 := h.mle
  rw [ptrV]
  refine f16_ok ?_
  unfold f16
  rw [keq_ptr_nil ptSto]
  repeat (first | refine kN_at ?_ | refine kB_at ?_ | refine kfld_of ?_ | refine kext_at rfl ?_ | refine kld_at hb rfl ?_ | refine kldN_at hb rfl (by omega) ?_ | refine kG_of (by first | exact rfl | omega) ?_ | refine klen_at ?_ | refine eql_at ?_ | refine neq_at ?_ | refine lss_at ?_ | refine leq_at ?_ | refine gtr_at ?_ | refine geq_at ?_ | refine add_at (by omega) (by omega) ?_ | refine sub_at (by omega) (by omega) ?_ | refine not_at ?_ | refine kO_at ?_ | refine kprt_at rfl ?_ | refine kprtN_at rfl ?_ | refine kcap_at ?_ | refine klenStr_at ?_ | refine kN_iat ?_ | refine kN_fat ?_ | refine kIf_T (by first | exact rfl | exact decT (by omega) | exact notT (decF (by omega))) ?_ | refine kIf_F (by first | exact rfl | exact decF (by omega) | exact notF (decT (by omega))) ?_)
  refine kcall_of (aMatch_spec h.atlas wi wo hwi hwo) ?_
  rintro v w6 ⟨hOv, h6, hfv⟩
  obtain ⟨va, vn, vc, rfl, hvs, hvn⟩ := hOv.is
  have hvn : vn = (matchL wi wo S.masks).length := by simpa using hvn rfl
  subst hvn
  have hmL := matchL_len wi wo S.masks
  refine klen_at ?_
  refine kL2_of (matchL wi wo S.masks).length (fun j x y wr => y = .int .i64 j ∧ Own wr x 2 (((matchL wi wo S.masks).take j).flatMap (rowsOf S) |>.flatMap entC) ∧ Same w6 wr ∧ ∀ k, vblk x k → w6.heap.size ≤ k) ⟨lI2_0 ⟨rfl, Own.nil _ _, Mod.refl _ _, fun k hk => by obtain ⟨_, _, _, e⟩ := hk; cases e⟩, fun x y wr hx => ?_⟩
  obtain ⟨j, hj, ⟨rfl, hO, hm, hfx⟩, hJ⟩ := lI2_step hx
  have hbig : (((matchL wi wo S.masks).take j).flatMap (rowsOf S)).length ≤ 90000 * 64 := by
    have h1 := flat_le (rowsOf S) 64 ((matchL wi wo S.masks).take j) (fun x _ => hr x)
    have h2 : ((matchL wi wo S.masks).take j).length ≤ 90000 := by rw [List.length_take]; omega
    have := Nat.mul_le_mul_right 64 h2
    omega
  refine lss_at ?_
  refine kB_at ?_
  refine kIf_dec (fun hlt => ?_) (fun hge => ?_)
  · have hlt : j < (matchL wi wo S.masks).length := by omega
    have hni : (matchL wi wo S.masks)[j] < S.tabs.length := by rw [hml]; exact matchL_lt (List.getElem_mem hlt)
    have hPr := h.same (h6.trans hm)
    have hbr := hPr.here
    obtain ⟨ta, tc, et, hts⟩ := hPr.ptab hni
    rw [et] at hbr
    refine kixld_of (F := natV) (l := matchL wi wo S.masks) (hvs.same hm) hlt rfl ?_
    rw [natV]
    have ets := flat_take_succ (rowsOf S) (matchL wi wo S.masks) j hlt
    have hrj := hr (matchL wi wo S.masks)[j]
    generalize hnn : (matchL wi wo S.masks)[j] = n at *
    have hT := hPr.tab n hni
    obtain ⟨q1, rv, bm, q2, q3, q4, q5, q6, q7⟩ := id hT
    repeat (first | refine kN_at ?_ | refine kB_at ?_ | refine kfld_of ?_ | refine kext_at rfl ?_ | refine kld_at hbr rfl ?_ | refine kldN_at hbr rfl (by omega) ?_ | refine kG_of (by first | exact rfl | omega) ?_ | refine klen_at ?_ | refine eql_at ?_ | refine neq_at ?_ | refine lss_at ?_ | refine leq_at ?_ | refine gtr_at ?_ | refine geq_at ?_ | refine add_at (by omega) (by omega) ?_ | refine sub_at (by omega) (by omega) ?_ | refine not_at ?_ | refine kO_at ?_ | refine kprt_at rfl ?_ | refine kprtN_at rfl ?_ | refine kcap_at ?_ | refine klenStr_at ?_ | refine kN_iat ?_ | refine kN_fat ?_ | refine kIf_T (by first | exact rfl | exact decT (by omega) | exact notT (decF (by omega))) ?_ | refine kIf_F (by first | exact rfl | exact decF (by omega) | exact notF (decT (by omega))) ?_)
    have ele : (List.range S.tabs.length).length = S.tabs.length := List.length_range
    refine kixld_of (F := fun i => ptrV (p.pt i)) (c := tc) (l := List.range S.tabs.length) hts (show n < (List.range S.tabs.length).length by omega) rfl ?_ |> fun h => by rw [ele] at h; exact h
    rw [List.getElem_range, ptrV]
    repeat (first | refine kN_at ?_ | refine kB_at ?_ | refine kfld_of ?_ | refine kext_at rfl ?_ | refine kld_at q2 rfl ?_ | refine kldN_at q2 rfl (by omega) ?_ | refine kG_of (by first | exact rfl | omega) ?_ | refine klen_at ?_ | refine eql_at ?_ | refine neq_at ?_ | refine lss_at ?_ | refine leq_at ?_ | refine gtr_at ?_ | refine geq_at ?_ | refine add_at (by omega) (by omega) ?_ | refine sub_at (by omega) (by omega) ?_ | refine not_at ?_ | refine kO_at ?_ | refine kprt_at rfl ?_ | refine kprtN_at rfl ?_ | refine kcap_at ?_ | refine klenStr_at ?_ | refine kN_iat ?_ | refine kN_fat ?_ | refine kIf_T (by first | exact rfl | exact decT (by omega) | exact notT (decF (by omega))) ?_ | refine kIf_F (by first | exact rfl | exact decF (by omega) | exact notF (decT (by omega))) ?_)
    have q3 : Own wr rv 2 ((rowsOf S n).flatMap entC) := by rw [rowsOf_eq hni]; exact q3
    obtain ⟨ra, rn, rc, rfl, hrs, _⟩ := q3.is
    refine ksem_append apEnts (by omega) hO (Src.ofSlIs (hk := slEnt_is.choose_spec) rc hrs (ones_ent _)) (by rw [flat_len entC 2 (fun _ => rfl), flat_len entC 2 (fun _ => rfl)]; omega) (by rw [flat_len entC 2 (fun _ => rfl), flat_len entC 2 (fun _ => rfl)]; omega) ?_
    intro v' w' ho hm' hf'
    repeat (first | refine kN_at ?_ | refine kB_at ?_ | refine kfld_of ?_ | refine kext_at rfl ?_ | refine kG_of (by first | exact rfl | omega) ?_ | refine klen_at ?_ | refine eql_at ?_ | refine neq_at ?_ | refine lss_at ?_ | refine leq_at ?_ | refine gtr_at ?_ | refine geq_at ?_ | refine add_at (by omega) (by omega) ?_ | refine sub_at (by omega) (by omega) ?_ | refine not_at ?_ | refine kO_at ?_ | refine kprt_at rfl ?_ | refine kprtN_at rfl ?_ | refine kcap_at ?_ | refine klenStr_at ?_ | refine kN_iat ?_ | refine kN_fat ?_ | refine kIf_T (by first | exact rfl | exact decT (by omega) | exact notT (decF (by omega))) ?_ | refine kIf_F (by first | exact rfl | exact decF (by omega) | exact notF (decT (by omega))) ?_)
    rw [cast_succ]
    refine hJ _ _ _ hlt ⟨rfl, ?_, hm.trans' (hm'.mono fun k _ e => .inr (hfx k e)), fun k hk => ?_⟩
    · rw [ets, List.flatMap_append]; exact ho
    · rcases hf' k hk with h | h
      · exact hfx k h
      · have := hm.size; omega
  · have : j = (matchL wi wo S.masks).length := by omega
    subst this
    rw [List.take_length] at hO hbig
    refine kcall_of (listed_spec hO (by omega)) ?_
    rintro r w22 ⟨rfl, L', g1, g2, g3, g4⟩
    have := h6.size
    refine ⟨L', g1, g2, g3, (h6.trans hm).trans' (g4.mono fun k _ e => .inr (by have := hfx k e; omega)), fun k hk => by have := hfx k hk; omega⟩
end Go.Proofs.YtlkpadfkmdgjcaaGreatDoor
end
section
set_option linter.unusedSimpArgs false
set_option linter.unusedVariables false
namespace Go.Proofs.YtlkpadfkmdgjcaaGreatDoor
open Go Go.Ev
set_option linter.unusedVariables false
set_option linter.unusedSimpArgs false
set_option maxRecDepth 100000
attribute [local irreducible] kO kB kStr kInt kN kG kIf kfld kld kldN kst knew kmap kbld kbldS kext kcnv klenStr klen kcap kprt kprtN kbool kint kstr keq kun ksl kix kiv kta kmk kmm ksem ksemU kextf kcallV kcallM kcall kL

theorem sinceL_lt {frame : Int} {rows : List Part} {x : Nat} (h : x ∈ sinceL frame rows) : x < rows.length := by
  unfold sinceL at h
  obtain ⟨⟨m, k⟩, hx, rfl⟩ := List.mem_map.1 h
  have := List.mem_zipIdx (List.mem_filter.1 hx).1
  simp at this; omega
def rowAt (T : TabM) (x : Nat) : Int × Int := (T.rows[x]?).getD (0, 0)
/-- Those of a table whose component was changed. -/
def chgOf (S : SM) (c : Nat) (frame : Int) (n : Nat) : List (Int × Int) := match S.tabs[n]? with
  | some T => if c ∈ compsM S.masks n then (sinceL frame (T.col c)).map (rowAt T) else []
  | none => []
theorem lookSince {o : Lab} {w : World} {b i c : Nat} {comps : List Nat} {wd pc : Nat → Nat} {T : TabM} (h : TabAt o w b i comps wd pc T) (frame : Int) {bm : Nat} {K : Value → World → Prop} (hM : MapIs w bm .i64 (comps.map fun (c : Nat) => ((c : Int), ptrV (pc c))))
    (hk : ∀ v w15 l1, l1 = (if c ∈ comps then sinceL frame (T.col c) else []) → l1.map (rowAt T) = (if c ∈ comps then (sinceL frame (T.col c)).map (rowAt T) else []) → Own w15 v 1 (l1.map natV) → Same w w15 → (∀ k, vblk v k → w.heap.size ≤ k) → K v w15) :
    ksem Tryz.prog (Instr.lookup 147 (.map (some bm)) (.int .i64 c) false) w fun v12 w13 => kcall Tryz.prog 100 #[v12, .int .i64 frame] w13 K := by
  by_cases hc : c ∈ comps
  · refine klook_of Tryz.underlying147 Tryz.underlying3 zCol hM (r := some (_, _)) (by rw [lk_comps, if_pos hc]) ?_
    refine kcall_of (cSince_spec (h.col hc) frame) ?_
    rintro v w' ⟨h1, h2, h3⟩
    exact hk v w' _ rfl (by rw [if_pos hc, if_pos hc]) (by rw [if_pos hc]; exact h1) h2 h3
  · have hne : ∀ x ∈ comps, (x : Int) ≠ (c : Int) := fun x hx e => hc (by
      have : x = c := by omega
      exact this ▸ hx)
    refine klook_of Tryz.underlying147 Tryz.underlying3 zCol hM (r := none) (by rw [lk_none (fun c => ptrV (pc c)) c _ hne]) ?_
    refine kcall_of (cSinceNil_spec w frame) ?_
    rintro v w' ⟨rfl, rfl⟩
    exact hk _ _ _ rfl (by rw [if_neg hc, if_neg hc]; rfl) (by rw [if_neg hc]; exact Own.nil _ _) (Mod.refl _ _) (fun k hk => by obtain ⟨_, _, _, e⟩ := hk; cases e)
theorem sChanged_spec {o : Lab} {w : World} {b : Nat} {p : Ptrs} {S : SM} (h : StoreP o w b p S) (hr : ∀ n, (rowsOf S n).length ≤ 64) (hcols : ∀ n T c, S.tabs[n]? = some T → c ∈ compsM S.masks n → (T.col c).length = T.rows.length) (c : Nat) (frame : Int) :
    Meets Tryz.prog 30 #[ptrV b, .int .i64 c, .int .i64 frame] w fun v w' => ∃ L' : List (Int × Int), L'.Perm ((List.range S.tabs.length).flatMap (chgOf S c frame)) ∧ L'.Pairwise (fun x y => x.1 ≤ y.1) ∧ Own w' v 2 (L'.flatMap entC) ∧ Same w w' ∧ ∀ k, vblk v k → w.heap.size ≤ k := by
  have hb := h.here
  have hm90 := h.mle
  have htle := h.tle
  obtain ⟨ta, tn, tc, et, hts, htn⟩ := h.tabs.is
  have htn : tn = S.tabs.length := by simpa using htn rfl
  subst htn
  rw [et] at hb
  have hlen : ∀ n, (chgOf S c frame n).length ≤ 64 := fun n => by
    unfold chgOf
    cases hT : S.tabs[n]? with
    | none => simp
    | some T =>
      simp only
      split
      · rename_i hc
        have h1 := sinceL_len frame (T.col c)
        have h2 := hcols n T c hT hc
        have h3 := hr n
        unfold rowsOf at h3
        rw [hT] at h3
        simp only at h3
        rw [List.length_map]; omega
      · simp
  rw [ptrV]
  refine f30_ok ?_
  unfold f30
  rw [keq_ptr_nil ptSto]
  repeat (first | refine kN_at ?_ | refine kB_at ?_ | refine kfld_of ?_ | refine kext_at rfl ?_ | refine kld_at hb rfl ?_ | refine kldN_at hb rfl (by omega) ?_ | refine kG_of (by first | exact rfl | omega) ?_ | refine klen_at ?_ | refine eql_at ?_ | refine neq_at ?_ | refine lss_at ?_ | refine leq_at ?_ | refine gtr_at ?_ | refine geq_at ?_ | refine add_at (by omega) (by omega) ?_ | refine sub_at (by omega) (by omega) ?_ | refine not_at ?_ | refine kO_at ?_ | refine kprt_at rfl ?_ | refine kprtN_at rfl ?_ | refine kcap_at ?_ | refine klenStr_at ?_ | refine kN_iat ?_ | refine kN_fat ?_ | refine kIf_T (by first | exact rfl | exact decT (by omega) | exact notT (decF (by omega))) ?_ | refine kIf_F (by first | exact rfl | exact decF (by omega) | exact notF (decT (by omega))) ?_)
  refine kL2_of S.tabs.length (fun j x y wr => y = .int .i64 j ∧ Own wr x 2 (((List.range j).flatMap (chgOf S c frame)).flatMap entC) ∧ Same w wr ∧ ∀ k, vblk x k → w.heap.size ≤ k) ⟨lI2_0 ⟨rfl, Own.nil _ _, Mod.refl _ _, fun k hk => by obtain ⟨_, _, _, e⟩ := hk; cases e⟩, fun x y wr hx => ?_⟩
  obtain ⟨j, hj, ⟨rfl, hO, hm, hfx⟩, hJ⟩ := lI2_step hx
  have hbig : ((List.range j).flatMap (chgOf S c frame)).length ≤ 90000 * 64 := by
    have h1 := flat_le (chgOf S c frame) 64 (List.range j) (fun x _ => hlen x)
    rw [List.length_range] at h1
    have := Nat.mul_le_mul_right 64 (show j ≤ 90000 by omega)
    omega
  unfold f30_1
  refine lss_at ?_
  refine kB_at ?_
  refine kIf_dec (fun hlt => ?_) (fun hge => ?_)
  · have hlt : j < S.tabs.length := by omega
    have hPr := h.same hm
    have hT := hPr.tab j hlt
    obtain ⟨q1, rv, bm, q20, q30, q4, q5, q60, q7⟩ := id (h.tab j hlt)
    have q2 := hm.get q20 (fun h => h)
    have q3 := q30.same hm
    have q6 := q60.mod hm (fun h => h)
    have ets : (List.range (j + 1)).flatMap (chgOf S c frame) = (List.range j).flatMap (chgOf S c frame) ++ chgOf S c frame j := by
      rw [List.range_succ, List.flatMap_append]; simp
    have hTq : S.tabs[j]? = some S.tabs[j] := List.getElem?_eq_getElem hlt
    have hrj := hr j
    rw [rowsOf_eq hlt] at hrj
    unfold f30_2
    have ele : (List.range S.tabs.length).length = S.tabs.length := List.length_range
    refine kixld_of (F := fun i => ptrV (p.pt i)) (c := tc) (l := List.range S.tabs.length) (by rw [ele]; exact hts.same hm) (show j < (List.range S.tabs.length).length by omega) rfl ?_ |> fun h => by rw [ele] at h; exact h
    rw [List.getElem_range, ptrV]
    repeat (first | refine kN_at ?_ | refine kB_at ?_ | refine kfld_of ?_ | refine kext_at rfl ?_ | refine kld_at q2 rfl ?_ | refine kldN_at q2 rfl (by omega) ?_ | refine kG_of (by first | exact rfl | omega) ?_ | refine klen_at ?_ | refine eql_at ?_ | refine neq_at ?_ | refine lss_at ?_ | refine leq_at ?_ | refine gtr_at ?_ | refine geq_at ?_ | refine add_at (by omega) (by omega) ?_ | refine sub_at (by omega) (by omega) ?_ | refine not_at ?_ | refine kO_at ?_ | refine kprt_at rfl ?_ | refine kprtN_at rfl ?_ | refine kcap_at ?_ | refine klenStr_at ?_ | refine kN_iat ?_ | refine kN_fat ?_ | refine kIf_T (by first | exact rfl | exact decT (by omega) | exact notT (decF (by omega))) ?_ | refine kIf_F (by first | exact rfl | exact decF (by omega) | exact notF (decT (by omega))) ?_)
    refine lookSince hT frame q6 (fun v w15 l1 h1 h2 hO1 h15 hf1 => ?_) 
    have hch : chgOf S c frame j = l1.map (rowAt S.tabs[j]) := by
      unfold chgOf
      rw [hTq]
      exact h2.symm
    have hl1 : ∀ x ∈ l1, x < S.tabs[j].rows.length := fun x hx => by
      by_cases hc : c ∈ compsM S.masks j
      · rw [h1, if_pos hc] at hx
        have := sinceL_lt hx
        rwa [hcols j _ c hTq hc] at this
      · rw [h1, if_neg hc] at hx; cases hx
    have hl64 : l1.length ≤ 64 := by
      have := hlen j
      rw [hch, List.length_map] at this
      exact this
    obtain ⟨va, vn, vc, rfl, hvs, hvn⟩ := hO1.is
    have hvn : vn = l1.length := by simpa using hvn rfl
    subst hvn
    refine klen_at ?_
    refine kL2_of l1.length (fun u x2 y2 w2 => y2 = .int .i64 u ∧ Own w2 x2 2 (((List.range j).flatMap (chgOf S c frame) ++ (l1.take u).map (rowAt S.tabs[j])).flatMap entC) ∧ Mod (vblk x) w15 w2 ∧ ∀ k, vblk x2 k → vblk x k ∨ w15.heap.size ≤ k) ⟨lI2_0 ⟨rfl, ?_, Mod.refl _ _, fun k hk => .inl hk⟩, fun x2 y2 w2 hx2 => ?_⟩
    · rw [List.take_zero, List.map_nil, List.append_nil]; exact hO.same h15
    obtain ⟨u, hu, ⟨rfl, hO2, hm2, hfx2⟩, hJ2⟩ := lI2_step hx2
    refine lss_at ?_
    refine kB_at ?_
    refine kIf_dec (fun hlt2 => ?_) (fun hge2 => ?_)
    · have hlt2 : u < l1.length := by omega
      have hxu := hl1 _ (List.getElem_mem hlt2)
      have q22 := hm2.get (h15.get q2 (fun h => h)) (fun e => by have := hfx _ e; have := lt_of_blk q20; omega)
      have q32 := (q3.same h15).mod hm2 (fun k hk e => by have := hfx _ e; have := q30.vblk_lt hk; omega)
      obtain ⟨ra, rn, rc, rfl, hrs, _⟩ := q32.is
      have hrn : rn = S.tabs[j].rows.length := by
        have := hrs.1
        rw [flat_len entC 2 (fun _ => rfl)] at this
        omega
      subst hrn
      have etk : (l1.take (u + 1)).map (rowAt S.tabs[j]) = (l1.take u).map (rowAt S.tabs[j]) ++ [rowAt S.tabs[j] l1[u]] := by
        rw [List.take_add_one, List.getElem?_eq_getElem hlt2, List.map_append]; rfl
      have era : rowAt S.tabs[j] l1[u] = S.tabs[j].rows[l1[u]] := by
        unfold rowAt; rw [List.getElem?_eq_getElem hxu]; rfl
      have hl2 : ((List.range j).flatMap (chgOf S c frame) ++ (l1.take u).map (rowAt S.tabs[j])).length ≤ 90000 * 64 + 64 := by
        rw [List.length_append, List.length_map, List.length_take]; omega
      refine kixld_of (F := natV) (l := l1) (hvs.mod hm2 (fun k f ek e => by have := hf1 k ⟨f, _, _, by rw [ek]⟩; have := hO.vblk_lt e; omega)) hlt2 rfl ?_
      rw [natV]
      repeat (first | refine kN_at ?_ | refine kB_at ?_ | refine kfld_of ?_ | refine kext_at rfl ?_ | refine kld_at q22 rfl ?_ | refine kldN_at q22 rfl (by omega) ?_ | refine kG_of (by first | exact rfl | omega) ?_ | refine klen_at ?_ | refine eql_at ?_ | refine neq_at ?_ | refine lss_at ?_ | refine leq_at ?_ | refine gtr_at ?_ | refine geq_at ?_ | refine add_at (by omega) (by omega) ?_ | refine sub_at (by omega) (by omega) ?_ | refine not_at ?_ | refine kO_at ?_ | refine kprt_at rfl ?_ | refine kprtN_at rfl ?_ | refine kcap_at ?_ | refine klenStr_at ?_ | refine kN_iat ?_ | refine kN_fat ?_ | refine kIf_T (by first | exact rfl | exact decT (by omega) | exact notT (decF (by omega))) ?_ | refine kIf_F (by first | exact rfl | exact decF (by omega) | exact notF (decT (by omega))) ?_)
      refine kixldN_of (F := entC) (sz := 2) (fun _ => rfl) (by omega) hrs hxu rfl ?_
      refine kbldS_of (cs := entC S.tabs[j].rows[l1[u]]) rfl fun w26 h26 hs26 hb26 => ?_
      refine ksem_append apEnts (by omega) (hO2.same h26) (Src.ofSlIs (hk := slEnt_is.choose_spec) 1 (SlIs.blk hb26 rfl) (ones_ent [S.tabs[j].rows[l1[u]]])) ?_ ?_ ?_
      · rw [flat_len entC 2 (fun _ => rfl)]; simp only [entC, List.length_cons, List.length_nil]; omega
      · rw [flat_len entC 2 (fun _ => rfl)]; simp only [entC, List.length_cons, List.length_nil]; omega
      intro v' w28 ho hm' hf'
      repeat (first | refine kN_at ?_ | refine kB_at ?_ | refine kfld_of ?_ | refine kext_at rfl ?_ | refine kG_of (by first | exact rfl | omega) ?_ | refine klen_at ?_ | refine eql_at ?_ | refine neq_at ?_ | refine lss_at ?_ | refine leq_at ?_ | refine gtr_at ?_ | refine geq_at ?_ | refine add_at (by omega) (by omega) ?_ | refine sub_at (by omega) (by omega) ?_ | refine not_at ?_ | refine kO_at ?_ | refine kprt_at rfl ?_ | refine kprtN_at rfl ?_ | refine kcap_at ?_ | refine klenStr_at ?_ | refine kN_iat ?_ | refine kN_fat ?_ | refine kIf_T (by first | exact rfl | exact decT (by omega) | exact notT (decF (by omega))) ?_ | refine kIf_F (by first | exact rfl | exact decF (by omega) | exact notF (decT (by omega))) ?_)
      rw [cast_succ]
      have h26s := h26.size
      have h15s := h15.size
      have hms := hm.size
      have hm2s := hm2.size
      refine hJ2 _ _ _ hlt2 ⟨rfl, ?_, (hm2.trans (Mod.of_same h26)).trans' (hm'.mono fun k _ e => hfx2 k e), fun k hk => ?_⟩
      · rw [etk, era, ← List.append_assoc, List.flatMap_append (ys := [S.tabs[j].rows[l1[u]]])]
        have e : [S.tabs[j].rows[l1[u]]].flatMap entC = entC S.tabs[j].rows[l1[u]] := by simp
        rw [e]; exact ho
      · rcases hf' k hk with h | h
        · exact hfx2 k h
        · exact .inr (by omega)
    · have : u = l1.length := by omega
      subst this
      rw [List.take_length] at hO2
      repeat (first | refine kN_at ?_ | refine kB_at ?_ | refine kfld_of ?_ | refine kext_at rfl ?_ | refine kG_of (by first | exact rfl | omega) ?_ | refine klen_at ?_ | refine eql_at ?_ | refine neq_at ?_ | refine lss_at ?_ | refine leq_at ?_ | refine gtr_at ?_ | refine geq_at ?_ | refine add_at (by omega) (by omega) ?_ | refine sub_at (by omega) (by omega) ?_ | refine not_at ?_ | refine kO_at ?_ | refine kprt_at rfl ?_ | refine kprtN_at rfl ?_ | refine kcap_at ?_ | refine klenStr_at ?_ | refine kN_iat ?_ | refine kN_fat ?_ | refine kIf_T (by first | exact rfl | exact decT (by omega) | exact notT (decF (by omega))) ?_ | refine kIf_F (by first | exact rfl | exact decF (by omega) | exact notF (decT (by omega))) ?_)
      rw [cast_succ]
      have h15s := h15.size
      have hms := hm.size
      refine hJ _ _ _ hlt ⟨rfl, ?_, (hm.trans h15).trans' (hm2.mono fun k _ e => .inr (hfx k e)), fun k hk => (hfx2 k hk).elim (fun h => hfx k h) (fun h => by omega)⟩
      rw [ets, hch]; exact hO2
  · have : j = S.tabs.length := by omega
    subst this
    refine kcall_of (listed_spec hO (by omega)) ?_
    rintro r w22 ⟨rfl, L', g1, g2, g3, g4⟩
    refine ⟨L', g1, g2, g3, hm.trans' (g4.mono fun k _ e => .inr (hfx k e)), fun k hk => hfx k hk⟩
end Go.Proofs.YtlkpadfkmdgjcaaGreatDoor
end
section
set_option linter.unusedSimpArgs false
set_option linter.unusedVariables false
namespace Go.Proofs.YtlkpadfkmdgjcaaGreatDoor
open Go Go.Ev
set_option linter.unusedVariables false
set_option linter.unusedSimpArgs false
set_option maxRecDepth 100000

/-! ### Lists of entities, as sets -/
theorem rows_at {S : SM} {ex : Nat → Prop} (h : WFe S ex) {n : Nat} {e : Int × Int} (he : e ∈ rowsOf S n) : ∃ (i r : Nat), e.1 = (i : Int) ∧ S.gens[i]? = some (e.2, true) ∧ S.spots[i]? = some (n, r) ∧ (rowsOf S n)[r]? = some e := by
  unfold rowsOf at *
  cases hT : S.tabs[n]? with
  | none => rw [hT] at he; cases he
  | some T =>
    rw [hT] at he
    obtain ⟨r, hr, e1⟩ := List.mem_iff_getElem.1 he
    have hre : T.rows[r]? = some e := by rw [List.getElem?_eq_getElem hr, e1]
    obtain ⟨i, e2, _, e3, e4⟩ := h.rows n T r e hT hre
    exact ⟨i, r, e2, e3, e4, hre⟩
theorem rows_mem {S : SM} (h : WF S) {n i : Nat} {g : Int} : ((i : Int), g) ∈ rowsOf S n ↔ S.gens[i]? = some (g, true) ∧ ∃ r, S.spots[i]? = some (n, r) := by
  constructor
  · intro he
    obtain ⟨j, r, e1, e2, e3, _⟩ := rows_at h he
    have : j = i := by simp at e1; omega
    subst this
    exact ⟨e2, r, e3⟩
  · rintro ⟨hg, r, hs⟩
    obtain ⟨n', r', T, h1, h2, h3⟩ := h.live i g hg (fun h => h)
    rw [hs] at h1; cases h1
    unfold rowsOf
    rw [h2]
    exact List.mem_iff_getElem?.2 ⟨r, h3⟩
theorem rows_nd {S : SM} {ex : Nat → Prop} (h : WFe S ex) (n : Nat) : (rowsOf S n).Nodup := by
  unfold rowsOf
  cases hT : S.tabs[n]? with
  | none => exact List.nodup_nil
  | some T =>
    simp only
    unfold List.Nodup
    rw [List.pairwise_iff_getElem]
    intro a b ha hb hab e
    obtain ⟨i, e1, _, _, e4⟩ := h.rows n T a _ hT (List.getElem?_eq_getElem ha)
    obtain ⟨j, f1, _, _, f4⟩ := h.rows n T b _ hT (List.getElem?_eq_getElem hb)
    have : i = j := by rw [e] at e1; omega
    subst this
    rw [e4] at f4; cases f4; omega
theorem rows_one {S : SM} {ex : Nat → Prop} (h : WFe S ex) {n n' : Nat} {e : Int × Int} (h1 : e ∈ rowsOf S n) (h2 : e ∈ rowsOf S n') : n = n' := by
  obtain ⟨i, r, e1, _, e3, _⟩ := rows_at h h1
  obtain ⟨j, r', f1, _, f3, _⟩ := rows_at h h2
  have : i = j := by omega
  subst this
  rw [e3] at f3; cases f3; rfl
theorem flat_nd {S : SM} {ex : Nat → Prop} (h : WFe S ex) {ns : List Nat} (hn : ns.Nodup) {f : Nat → List (Int × Int)} (hf : ∀ n, (f n).Nodup) (hsub : ∀ n, ∀ e ∈ f n, e ∈ rowsOf S n) : (ns.flatMap f).Nodup := by
  unfold List.Nodup
  rw [List.pairwise_flatMap]
  refine ⟨fun n _ => hf n, hn.imp fun hab x hx y hy e => ?_⟩
  subst e
  exact hab (rows_one h (hsub _ _ hx) (hsub _ _ hy))
theorem sinceL_nd (frame : Int) (rows : List Part) : (sinceL frame rows).Nodup := by
  unfold sinceL
  have h1 : (rows.zipIdx.map (·.2)).Nodup := by
    have : rows.zipIdx.map (·.2) = List.range rows.length := by simp [List.range_eq_range']
    rw [this]; exact List.nodup_range
  exact List.Nodup.sublist (List.Sublist.map _ List.filter_sublist) h1
theorem matchL_nd (wi wo : Nat) (masks : List Nat) : (matchL wi wo masks).Nodup := by
  unfold matchL
  have h1 : (masks.zipIdx.map (·.2)).Nodup := by
    have : masks.zipIdx.map (·.2) = List.range masks.length := by simp [List.range_eq_range']
    rw [this]; exact List.nodup_range
  exact List.Nodup.sublist (List.Sublist.map _ List.filter_sublist) h1
theorem matchL_mem {wi wo : Nat} {masks : List Nat} {n : Nat} : n ∈ matchL wi wo masks ↔ ∃ h : n < masks.length, matchP wi wo masks[n] = true := by
  unfold matchL
  rw [List.mem_map]
  constructor
  · rintro ⟨⟨m, k⟩, hx, rfl⟩
    obtain ⟨h1, h2⟩ := List.mem_filter.1 hx
    obtain ⟨_, h3, h4⟩ := List.mem_zipIdx h1
    simp only [Nat.zero_add, Nat.sub_zero] at h3 h4
    exact ⟨h3, by rw [← h4]; exact h2⟩
  · rintro ⟨h, hm⟩
    refine ⟨(masks[n], n), List.mem_filter.2 ⟨?_, hm⟩, rfl⟩
    rw [List.mem_zipIdx_iff_getElem?]
    exact List.getElem?_eq_getElem h
theorem sinceL_mem {frame : Int} {rows : List Part} {x : Nat} : x ∈ sinceL frame rows ↔ ∃ h : x < rows.length, frame ≤ (rows[x]).tick := by
  unfold sinceL
  rw [List.mem_map]
  constructor
  · rintro ⟨⟨m, k⟩, hx, rfl⟩
    obtain ⟨h1, h2⟩ := List.mem_filter.1 hx
    obtain ⟨_, h3, h4⟩ := List.mem_zipIdx h1
    simp only [Nat.zero_add, Nat.sub_zero] at h3 h4
    exact ⟨h3, by rw [← h4]; simpa using h2⟩
  · rintro ⟨h, hm⟩
    refine ⟨(rows[x], x), List.mem_filter.2 ⟨?_, by simpa using hm⟩, rfl⟩
    rw [List.mem_zipIdx_iff_getElem?]
    exact List.getElem?_eq_getElem h
/-- A list of entities that rises, and holds just these. -/
def Just (L : List (Int × Int)) (P : Nat → Int → Prop) : Prop := L.Nodup ∧ L.Pairwise (fun x y => x.1 ≤ y.1) ∧ ∀ e, e ∈ L ↔ ∃ (i : Nat) (g : Int), e = ((i : Int), g) ∧ P i g
theorem match_at {o : Lab} {w : World} {b : Nat} {p : Ptrs} {S : SM} (h : StoreP o w b p S) {t : Nat} (hG : GS S t) (hml : S.tabs.length = S.masks.length) (wi wo : Nat) (hwi : wi < 4294967296) (hwo : wo < 4294967296) :
    Meets Tryz.prog 16 #[ptrV b, msk wi, msk wo] w fun v w' => ∃ L', Just L' (fun i g => S.gens[i]? = some (g, true) ∧ matchP wi wo (maskP (partsOf S i)) = true) ∧ Own w' v 2 (L'.flatMap entC) ∧ Same w w' ∧ ∀ k, vblk v k → w.heap.size ≤ k := by
  have hr : ∀ n, (rowsOf S n).length ≤ 64 := fun n => by
    unfold rowsOf
    cases hT : S.tabs[n]? with
    | none => simp
    | some T =>
      have h1 := hG.wf.rows_le hT
      have h2 := hG.wf.gs
      have h3 := hG.g64
      simp only; omega
  refine (sMatch_spec h hml hr wi wo hwi hwo).mono ?_
  rintro v w' ⟨L', h1, h2, h3, h4, h5⟩
  refine ⟨L', ⟨?_, h2, fun e => ?_⟩, h3, h4, h5⟩
  · exact (List.Perm.nodup_iff h1).2 (flat_nd hG.wf (matchL_nd _ _ _) (rows_nd hG.wf) fun n e he => he)
  · rw [h1.mem_iff, List.mem_flatMap]
    constructor
    · rintro ⟨n, hn, he⟩
      obtain ⟨i, r, e1, e2, e3, _⟩ := rows_at hG.wf he
      obtain ⟨hnm, hm⟩ := matchL_mem.1 hn
      refine ⟨i, e.2, Prod.ext e1 rfl, e2, ?_⟩
      obtain ⟨n', r', hsp, _, hnm', _, _, _, _, _, hmk, _⟩ := parts_ok h hG e2
      rw [e3] at hsp; cases hsp
      rw [hmk]; exact hm
    · rintro ⟨i, g, rfl, hg, hm⟩
      obtain ⟨n', r', hsp, hn', hnm', _, _, _, _, _, hmk, _⟩ := parts_ok h hG hg
      rw [hmk] at hm
      exact ⟨n', matchL_mem.2 ⟨hnm', hm⟩, (rows_mem hG.wf).2 ⟨hg, r', hsp⟩⟩
theorem changed_at {o : Lab} {w : World} {b : Nat} {p : Ptrs} {S : SM} (h : StoreP o w b p S) {t : Nat} (hG : GS S t) (c : Nat) (frame : Int) :
    Meets Tryz.prog 30 #[ptrV b, .int .i64 c, .int .i64 frame] w fun v w' => ∃ L', Just L' (fun i g => S.gens[i]? = some (g, true) ∧ ∃ q ∈ partsOf S i, q.comp = (c : Int) ∧ frame ≤ q.tick) ∧ Own w' v 2 (L'.flatMap entC) ∧ Same w w' ∧ ∀ k, vblk v k → w.heap.size ≤ k := by
  have hr : ∀ n, (rowsOf S n).length ≤ 64 := fun n => by
    unfold rowsOf
    cases hT : S.tabs[n]? with
    | none => simp
    | some T =>
      have h1 := hG.wf.rows_le hT
      have h2 := hG.wf.gs
      have h3 := hG.g64
      simp only; omega
  refine (sChanged_spec h hr hG.wf.cols c frame).mono ?_
  rintro v w' ⟨L', h1, h2, h3, h4, h5⟩
  have hsub : ∀ n, ∀ e ∈ chgOf S c frame n, ∃ T x, S.tabs[n]? = some T ∧ c ∈ compsM S.masks n ∧ T.rows[x]? = some e ∧ x ∈ sinceL frame (T.col c) := fun n e he => by
    unfold chgOf at he
    cases hT : S.tabs[n]? with
    | none => rw [hT] at he; cases he
    | some T =>
      rw [hT] at he
      simp only at he
      split at he
      · rename_i hc
        obtain ⟨x, hx, rfl⟩ := List.mem_map.1 he
        have hxl := sinceL_lt hx
        rw [hG.wf.cols n T c hT hc] at hxl
        exact ⟨T, x, rfl, hc, by unfold rowAt; rw [List.getElem?_eq_getElem hxl]; rfl, hx⟩
      · cases he
  refine ⟨L', ⟨?_, h2, fun e => ?_⟩, h3, h4, h5⟩
  · refine (List.Perm.nodup_iff h1).2 (flat_nd hG.wf List.nodup_range (fun n => ?_) fun n e he => ?_)
    · unfold chgOf
      cases hT : S.tabs[n]? with
      | none => exact List.nodup_nil
      | some T =>
        simp only
        split
        · rename_i hc
          unfold List.Nodup
          rw [List.pairwise_map]
          refine (sinceL_nd frame (T.col c)).imp_of_mem fun {a b} ha hb hab e => ?_
          have hal := sinceL_lt ha
          have hbl := sinceL_lt hb
          rw [hG.wf.cols n T c hT hc] at hal hbl
          unfold rowAt at e
          rw [List.getElem?_eq_getElem hal, List.getElem?_eq_getElem hbl] at e
          have hnd := rows_nd hG.wf n
          unfold rowsOf at hnd
          rw [hT] at hnd
          exact hab ((List.getElem_inj hnd).1 e)
        · exact List.nodup_nil
    · obtain ⟨T, x, hT, _, hx, _⟩ := hsub n e he
      unfold rowsOf
      rw [hT]
      exact List.mem_iff_getElem?.2 ⟨x, hx⟩
  · rw [h1.mem_iff, List.mem_flatMap]
    constructor
    · rintro ⟨n, hn, he⟩
      obtain ⟨T, x, hT, hc, hx, hsx⟩ := hsub n e he
      obtain ⟨i, e1, _, e3, e4⟩ := hG.wf.rows n T x e hT hx
      refine ⟨i, e.2, Prod.ext e1 rfl, e3, partAt T x c, ?_, ?_, ?_⟩
      · rw [partsOf_eq e4 hT]; exact List.mem_map.2 ⟨c, hc, rfl⟩
      · obtain ⟨n', r', hsp, hn', _, _, _, _, _, _, _, _, hpc⟩ := parts_ok h hG e3
        rw [e4] at hsp; cases hsp
        have : S.tabs[n] = T := by
          rw [List.getElem?_eq_getElem hn'] at hT; exact Option.some.inj hT
        rw [← this]; exact hpc c hc
      · obtain ⟨hxl, ht⟩ := sinceL_mem.1 hsx
        unfold partAt
        rw [List.getElem?_eq_getElem hxl]; exact ht
    · rintro ⟨i, g, rfl, hg, q, hq, hqc, hqt⟩
      obtain ⟨n', r', hsp, hn', hnm', hcol, hpe, hce, _, _, hmk, _, hpc⟩ := parts_ok h hG hg
      rw [hpe] at hq
      obtain ⟨d, hd, rfl⟩ := List.mem_map.1 hq
      have hdc : d = c := by have := hpc d hd; omega
      subst hdc
      obtain ⟨n2, r2, T2, k1, k2, k3⟩ := hG.wf.live i g hg (fun h => h)
      rw [hsp] at k1; cases k1
      rw [List.getElem?_eq_getElem hn'] at k2; cases k2
      refine ⟨n', by simpa using hn', ?_⟩
      unfold chgOf
      rw [List.getElem?_eq_getElem hn']
      simp only
      rw [if_pos hd]
      have hrl := hcol d hd
      refine List.mem_map.2 ⟨r', sinceL_mem.2 ⟨hrl, ?_⟩, by unfold rowAt; rw [k3]; rfl⟩
      unfold partAt at hqt
      rw [List.getElem?_eq_getElem hrl] at hqt
      exact hqt
end Go.Proofs.YtlkpadfkmdgjcaaGreatDoor
end
section
set_option linter.unusedSimpArgs false
set_option linter.unusedVariables false
namespace Go.Proofs.YtlkpadfkmdgjcaaGreatDoor
open Go Go.Ev
set_option linter.unusedVariables false
set_option linter.unusedSimpArgs false
set_option maxRecDepth 100000

/-! ### A part becomes another one -/
def putS (S : SM) (n r c : Nat) (q : Part) (hn : n < S.tabs.length) : SM := { S with tabs := S.tabs.set n ⟨S.tabs[n].rows, updC S.tabs[n].col c ((S.tabs[n].col c).set r q)⟩ }
structure PutS (S S' : SM) (i c : Nat) (q : Part) : Prop where
  gens : S'.gens = S.gens
  cs : S'.cs = S.cs
  masks : S'.masks = S.masks
  tabs : S'.tabs.length = S.tabs.length
  free : S'.free = S.free
  parts : partsOf S' i = (partsOf S i).map fun x => if x.comp = (c : Int) then q else x
  others : ∀ j gj, j ≠ i → S.gens[j]? = some (gj, true) → partsOf S' j = partsOf S j
theorem putS_tabs {S : SM} {n r c : Nat} {q : Part} (hn : n < S.tabs.length) (k : Nat) : (putS S n r c q hn).tabs[k]? = if k = n then some ⟨S.tabs[n].rows, updC S.tabs[n].col c ((S.tabs[n].col c).set r q)⟩ else S.tabs[k]? := by
  unfold putS
  rw [List.getElem?_set]
  by_cases h : n = k
  · subst h; rw [if_pos rfl, if_pos hn, if_pos rfl]
  · rw [if_neg h, if_neg (fun e => h e.symm)]
theorem GS.put {S : SM} {t : Nat} (h : GS S t) {i : Nat} {g : Int} (hg : S.gens[i]? = some (g, true)) {n r : Nat} (hs : S.spots[i]? = some (n, r)) (hn : n < S.tabs.length) {c : Nat} (hc : c ∈ compsM S.masks n) (hr : r < (S.tabs[n].col c).length)
    (hpc : ∀ d ∈ compsM S.masks n, (partAt S.tabs[n] r d).comp = (d : Int)) (q : Part) :
    GS (putS S n r c q hn) t ∧ PutS S (putS S n r c q hn) i c q := by
  have hTn : S.tabs[n]? = some S.tabs[n] := List.getElem?_eq_getElem hn
  have hT' := putS_tabs (r := r) (c := c) (q := q) hn
  have hsp : (putS S n r c q hn).spots = S.spots := rfl
  have hcol : ∀ d, ((updC S.tabs[n].col c ((S.tabs[n].col c).set r q)) d).length = (S.tabs[n].col d).length := fun d => by
    by_cases hd : d = c
    · subst hd; rw [updC_same, List.length_set]
    · rw [updC_ne _ hd]
  refine ⟨⟨⟨h.wf.gs, fun j gj hgj _ => ?_, fun n' T r' e hT hre => ?_, fun n' T d hT hd => ?_⟩, h.fr, h.gen, h.ml, h.g64⟩, ⟨rfl, rfl, rfl, by simp [putS], rfl, ?_, fun j gj hj hgj => ?_⟩⟩
  · obtain ⟨n', r', T', h1, h2, h3⟩ := h.wf.live j gj hgj (fun h => h)
    by_cases hnn : n' = n
    · subst hnn
      rw [hTn] at h2; cases h2
      exact ⟨n', r', _, h1, (hT' n').trans (if_pos rfl), h3⟩
    · exact ⟨n', r', T', h1, by rw [hT', if_neg hnn]; exact h2, h3⟩
  · rw [hT'] at hT
    by_cases hnn : n' = n
    · subst hnn
      rw [if_pos rfl] at hT
      cases hT
      exact h.wf.rows n' _ r' e hTn hre
    · rw [if_neg hnn] at hT
      exact h.wf.rows n' T r' e hT hre
  · rw [hT'] at hT
    by_cases hnn : n' = n
    · subst hnn
      rw [if_pos rfl] at hT
      cases hT
      show (updC _ _ _ d).length = _
      rw [hcol d]
      exact h.wf.cols n' _ d hTn hd
    · rw [if_neg hnn] at hT
      exact h.wf.cols n' T d hT hd
  · rw [partsOf_eq hs hTn, partsOf_eq (S := putS S n r c q hn) hs (by rw [hT', if_pos rfl]), List.map_map]
    refine List.map_congr_left fun d hd => ?_
    have e := hpc d hd
    show ((updC S.tabs[n].col c ((S.tabs[n].col c).set r q) d)[r]?).getD _ = if (partAt S.tabs[n] r d).comp = (c : Int) then q else partAt S.tabs[n] r d
    by_cases hdc : d = c
    · subst hdc
      rw [if_pos e, updC_same, List.getElem?_set, if_pos rfl, if_pos hr]; rfl
    · rw [if_neg (by omega), updC_ne _ hdc]; rfl
  · obtain ⟨n', r', T', h1, h2, h3⟩ := h.wf.live j gj hgj (fun h => h)
    by_cases hnn : n' = n
    · subst hnn
      rw [hTn] at h2; cases h2
      have hrr : r' ≠ r := fun e => by
        subst e
        obtain ⟨n2, r2, T2, k1, k2, k3⟩ := h.wf.live i g hg (fun h => h)
        rw [hs] at k1; cases k1
        rw [hTn] at k2; cases k2
        rw [h3] at k3
        simp at k3; omega
      rw [partsOf_eq h1 hTn, partsOf_eq (S := putS S n' r c q hn) h1 (by rw [hT', if_pos rfl])]
      refine List.map_congr_left fun d hd => ?_
      show ((updC S.tabs[n'].col c ((S.tabs[n'].col c).set r q) d)[r']?).getD _ = ((S.tabs[n'].col d)[r']?).getD _
      by_cases hdc : d = c
      · subst hdc
        rw [updC_same, List.getElem?_set_ne (fun e => hrr e.symm)]
      · rw [updC_ne _ hdc]
    · rw [partsOf_eq h1 h2, partsOf_eq (S := putS S n r c q hn) h1 (by rw [hT', if_neg hnn]; exact h2)]; rfl
end Go.Proofs.YtlkpadfkmdgjcaaGreatDoor
end
section
set_option linter.unusedSimpArgs false
set_option linter.unusedVariables false
namespace Go.Proofs.YtlkpadfkmdgjcaaGreatDoor
open Go Go.Ev
set_option linter.unusedVariables false
set_option maxRecDepth 100000

/-! pasodoble/schema.Check -/
def f67_3 (x1 : Value) (x3 : Value) (x18 : Value) (x19 : Value) (J5 : Value → World → Prop) (Q : Value → World → Prop) (w : World) : Prop :=
  kint .i64 .add x19 (.int .i64 1) fun v24 =>
  J5 v24 w

def f67_2 (x1 : Value) (x3 : Value) (x18 : Value) (x19 : Value) (J5 : Value → World → Prop) (Q : Value → World → Prop) (w : World) : Prop :=
  kldN 2 x1 w fun v21 =>
  kcall Tryz.prog 129 #[x3, v21, x19] w fun v22 w23 =>
  f67_3 x1 x3 x18 x19 J5 Q w23

def f67_8 (x1 : Value) (x3 : Value) (x37 : Value) (x38 : Value) (J12 : Value → World → Prop) (Q : Value → World → Prop) (w : World) : Prop :=
  kint .i64 .add x38 (.int .i64 1) fun v43 =>
  J12 v43 w

def f67_7 (x1 : Value) (x3 : Value) (x37 : Value) (x38 : Value) (J12 : Value → World → Prop) (Q : Value → World → Prop) (w : World) : Prop :=
  kldN 2 x1 w fun v40 =>
  kcall Tryz.prog 130 #[x3, v40, x38] w fun v41 w42 =>
  f67_8 x1 x3 x37 x38 J12 Q w42

def f67_9 (x3 : Value) (Q : Value → World → Prop) (w : World) : Prop :=
  kN x3 <|
  kfld 0 x3 fun v44 =>
  kld v44 w fun v45 =>
  kcall Tryz.prog 131 #[v45] w fun v46 w47 =>
  Q v46 w47

def f67_6 (x38 : Value) (x1 : Value) (x3 : Value) (x37 : Value) (J12 : Value → World → Prop) (Q : Value → World → Prop) (w : World) : Prop :=
  kint .i64 .lss x38 x37 fun v39 =>
  kB v39 fun b48 => kIf b48
  (f67_7 x1 x3 x37 x38 J12 Q w)
  (f67_9 x3 Q w)

def f67_5 (x1 : Value) (x3 : Value) (Q : Value → World → Prop) (w : World) : Prop :=
  kfld 1 x1 fun v35 =>
  kld v35 w fun v36 =>
  klen v36 fun v37 =>
  kL fun (I : Value → World → Prop) (μ : Value → World → Nat) => I (.int .i64 0) w ∧ ∀ (x38 : Value) (w1 : World), I x38 w1 →
  f67_6 x38 x1 x3 v37 (fun y38 w2 => I y38 w2 ∧ μ y38 w2 < μ x38 w1) Q w1

def f67_4 (x1 : Value) (x3 : Value) (Q : Value → World → Prop) (w : World) : Prop :=
  kfld 1 x1 fun v25 =>
  kld v25 w fun v26 =>
  klen v26 fun v27 =>
  kint .i64 .gtr v27 (.int .i64 8) fun v29 =>
  kB v29 fun b49 => kIf b49
  (kld (.pointer (some ⟨6, 0, none⟩)) w fun v30 =>
  kbldS [(.string ⟨#[]⟩)] 1 [(0, 1, (.string ⟨#[114, 101, 115, 111, 117, 114, 99, 101, 115]⟩))] 9 w fun v31 w32 =>
  kcall Tryz.prog 128 #[x3, v30, v31] w32 fun v33 w34 =>
  f67_5 x1 x3 Q w34)
  (f67_5 x1 x3 Q w)

def f67_1 (x19 : Value) (x1 : Value) (x3 : Value) (x18 : Value) (J5 : Value → World → Prop) (Q : Value → World → Prop) (w : World) : Prop :=
  kint .i64 .lss x19 x18 fun v20 =>
  kB v20 fun b50 => kIf b50
  (f67_2 x1 x3 x18 x19 J5 Q w)
  (f67_4 x1 x3 Q w)

def f67_0 (x1 : Value) (x3 : Value) (Q : Value → World → Prop) (w : World) : Prop :=
  kfld 0 x1 fun v16 =>
  kld v16 w fun v17 =>
  klen v17 fun v18 =>
  kL fun (I : Value → World → Prop) (μ : Value → World → Nat) => I (.int .i64 0) w ∧ ∀ (x19 : Value) (w1 : World), I x19 w1 →
  f67_1 x19 x1 x3 v18 (fun y19 w2 => I y19 w2 ∧ μ y19 w2 < μ x19 w1) Q w1

def f67 (x0 : Value) (Q : Value → World → Prop) (w : World) : Prop :=
  knew (Value.cells x0) 34 w fun v1 w2 =>
  kbld [(.slice none 0 0)] [] fun v3 =>
  knew (Value.cells v3) 213 w2 fun v4 w5 =>
  kfld 0 v1 fun v6 =>
  kld v6 w5 fun v7 =>
  klen v7 fun v8 =>
  kint .i64 .gtr v8 (.int .i64 16) fun v10 =>
  kB v10 fun b51 => kIf b51
  (kld (.pointer (some ⟨6, 0, none⟩)) w5 fun v11 =>
  kbldS [(.string ⟨#[]⟩)] 1 [(0, 1, (.string ⟨#[99, 111, 109, 112, 111, 110, 101, 110, 116, 115]⟩))] 9 w5 fun v12 w13 =>
  kcall Tryz.prog 128 #[v4, v11, v12] w13 fun v14 w15 =>
  f67_0 v1 v4 Q w15)
  (f67_0 v1 v4 Q w5)

theorem f67_eq (x0 : Value) (Q : Value → World → Prop) (w : World) : f67 x0 Q w = fnVC Tryz.prog Tryz.f67 [(5, [19]), (12, [38])] (Tryz.f67.body.get rfl) [x0] w Q := by kernel_rfl
theorem f67_ok {x0 : Value} {Q : Value → World → Prop} {w : World} (h : f67 x0 Q w) : Meets Tryz.prog 67 #[x0] w Q :=
  sound (c := (Tryz.f67.body.get rfl)) [(5, [19]), (12, [38])] Tryz.func67 rfl rfl (args := [x0]) rfl (Eq.mp (f67_eq x0 Q w) h)

/-! (*pasodoble/schema.flaws).component -/
def f129_1 (x0 : Value) (x6 : Value) (x9 : Value) (x35 : Value) (Q : Value → World → Prop) (w : World) : Prop :=
  kB x35 fun b47 => kIf b47
  (kld (.pointer (some ⟨5, 0, none⟩)) w fun v32 =>
  kbldS [(.string ⟨#[]⟩)] 3 [(0, 1, (.string ⟨#[99, 111, 109, 112, 111, 110, 101, 110, 116, 115]⟩)), (1, 1, x9), (2, 1, (.string ⟨#[119, 105, 100, 116, 104]⟩))] 9 w fun v33 w34 =>
  kcall Tryz.prog 128 #[x0, v32, v33] w34 fun v35 w36 =>
  Q (.tuple #[]) w36)
  (kldN 7 x6 w fun v37 =>
  kcall Tryz.prog 171 #[v37] w fun v38 w39 =>
  kun .not (some .bool) v38 fun v40 =>
  kB v40 fun b46 => kIf b46
  (kld (.pointer (some ⟨5, 0, none⟩)) w39 fun v41 =>
  kbldS [(.string ⟨#[]⟩)] 3 [(0, 1, (.string ⟨#[99, 111, 109, 112, 111, 110, 101, 110, 116, 115]⟩)), (1, 1, x9), (2, 1, (.string ⟨#[100, 101, 102, 97, 117, 108, 116]⟩))] 9 w39 fun v42 w43 =>
  kcall Tryz.prog 128 #[x0, v41, v42] w43 fun v44 w45 =>
  Q (.tuple #[]) w45)
  (Q (.tuple #[]) w39))

def f129_0 (x0 : Value) (x2 : Value) (x6 : Value) (Q : Value → World → Prop) (w : World) : Prop :=
  kcall Tryz.prog 170 #[x2] w fun v23 w24 =>
  kfld 1 x6 fun v25 =>
  kld v25 w24 fun v26 =>
  kint .i64 .lss v26 (.int .i64 1) fun v27 =>
  kB v27 fun b28 => kIf (!b28)
  (kfld 1 x6 fun v29 =>
  kld v29 w24 fun v30 =>
  kint .i64 .gtr v30 (.int .i64 4) fun v31 =>
  f129_1 x0 x6 v23 v31 Q w24)
  (f129_1 x0 x6 v23 (.bool true) Q w24)

def f129 (x0 : Value) (x1 : Value) (x2 : Value) (Q : Value → World → Prop) (w : World) : Prop :=
  knew (Value.cells x1) 34 w fun v1 w2 =>
  kfld 0 v1 fun v3 =>
  kld v3 w2 fun v4 =>
  kix (some (.slice 132)) (some 7) v4 x2 fun v5 =>
  kldN 7 v5 w2 fun v6 =>
  knew #[(.string ⟨#[]⟩), (.int .i64 0), (.bool false), (.int .i64 0), (.int .i64 0), (.int .i64 0), (.int .i64 0)] 132 w2 fun v7 w8 =>
  kst 7 v7 v6 w8 fun w9 =>
  kldN 2 v1 w9 fun v10 =>
  kfld 0 v7 fun v11 =>
  kld v11 w9 fun v12 =>
  kcall Tryz.prog 168 #[v10, v12] w9 fun v13 w14 =>
  kext v13 0 fun v15 =>
  kext v13 1 fun v16 =>
  kfld 0 v7 fun v17 =>
  kld v17 w14 fun v18 =>
  kB v16 fun b19 => kIf b19
  (kint .i64 .lss v15 x2 fun v20 =>
  kcall Tryz.prog 169 #[x0, v18, v20, (.string ⟨#[99, 111, 109, 112, 111, 110, 101, 110, 116, 115]⟩), x2] w14 fun v21 w22 =>
  f129_0 x0 x2 v7 Q w22)
  (kcall Tryz.prog 169 #[x0, v18, (.bool false), (.string ⟨#[99, 111, 109, 112, 111, 110, 101, 110, 116, 115]⟩), x2] w14 fun v48 w49 =>
  f129_0 x0 x2 v7 Q w49)

theorem f129_eq (x0 : Value) (x1 : Value) (x2 : Value) (Q : Value → World → Prop) (w : World) : f129 x0 x1 x2 Q w = fnVC Tryz.prog Tryz.f129 [] (Tryz.f129.body.get rfl) [x0, x1, x2] w Q := by kernel_rfl
theorem f129_ok {x0 : Value} {x1 : Value} {x2 : Value} {Q : Value → World → Prop} {w : World} (h : f129 x0 x1 x2 Q w) : Meets Tryz.prog 129 #[x0, x1, x2] w Q :=
  sound (c := (Tryz.f129.body.get rfl)) [] Tryz.func129 rfl rfl (args := [x0, x1, x2]) rfl (Eq.mp (f129_eq x0 x1 x2 Q w) h)

/-! (*pasodoble/schema.flaws).named -/
def f169 (x0 : Value) (x1 : Value) (x2 : Value) (x3 : Value) (x4 : Value) (Q : Value → World → Prop) (w : World) : Prop :=
  kcall Tryz.prog 170 #[x4] w fun v1 w2 =>
  kcall Tryz.prog 201 #[x1] w2 fun v3 w4 =>
  kun .not (some .bool) v3 fun v5 =>
  kB v5 fun b17 => kIf b17
  (kld (.pointer (some ⟨10, 0, none⟩)) w4 fun v6 =>
  kbldS [(.string ⟨#[]⟩)] 3 [(0, 1, x3), (1, 1, v1), (2, 1, (.string ⟨#[110, 97, 109, 101]⟩))] 9 w4 fun v7 w8 =>
  kcall Tryz.prog 128 #[x0, v6, v7] w8 fun v9 w10 =>
  Q (.tuple #[]) w10)
  (kB x2 fun b16 => kIf b16
  (kld (.pointer (some ⟨0, 0, none⟩)) w4 fun v11 =>
  kbldS [(.string ⟨#[]⟩)] 3 [(0, 1, x3), (1, 1, v1), (2, 1, (.string ⟨#[110, 97, 109, 101]⟩))] 9 w4 fun v12 w13 =>
  kcall Tryz.prog 128 #[x0, v11, v12] w13 fun v14 w15 =>
  Q (.tuple #[]) w15)
  (Q (.tuple #[]) w4))

theorem f169_eq (x0 : Value) (x1 : Value) (x2 : Value) (x3 : Value) (x4 : Value) (Q : Value → World → Prop) (w : World) : f169 x0 x1 x2 x3 x4 Q w = fnVC Tryz.prog Tryz.f169 [] (Tryz.f169.body.get rfl) [x0, x1, x2, x3, x4] w Q := by kernel_rfl
theorem f169_ok {x0 : Value} {x1 : Value} {x2 : Value} {x3 : Value} {x4 : Value} {Q : Value → World → Prop} {w : World} (h : f169 x0 x1 x2 x3 x4 Q w) : Meets Tryz.prog 169 #[x0, x1, x2, x3, x4] w Q :=
  sound (c := (Tryz.f169.body.get rfl)) [] Tryz.func169 rfl rfl (args := [x0, x1, x2, x3, x4]) rfl (Eq.mp (f169_eq x0 x1 x2 x3 x4 Q w) h)

/-! pasodoble/schema.Find -/
def f168 (x0 : Value) (x1 : Value) (Q : Value → World → Prop) (w : World) : Prop :=
  knew (Value.cells x0) 34 w fun v1 w2 =>
  knew (Value.cells x1) 9 w2 fun v3 w4 =>
  kfld 0 v1 fun v5 =>
  kld v5 w4 fun v6 =>
  kcall Tryz.prog 199 #[v6, (.func (.func 200) #[] #[v3])] w4 fun v7 w8 =>
  kmm .i64 true v7 (.int .i64 0) fun v9 =>
  kint .i64 .geq v7 (.int .i64 0) fun v11 =>
  Q (.tuple #[v9, v11]) w8

theorem f168_eq (x0 : Value) (x1 : Value) (Q : Value → World → Prop) (w : World) : f168 x0 x1 Q w = fnVC Tryz.prog Tryz.f168 [] (Tryz.f168.body.get rfl) [x0, x1] w Q := by kernel_rfl
theorem f168_ok {x0 : Value} {x1 : Value} {Q : Value → World → Prop} {w : World} (h : f168 x0 x1 Q w) : Meets Tryz.prog 168 #[x0, x1] w Q :=
  sound (c := (Tryz.f168.body.get rfl)) [] Tryz.func168 rfl rfl (args := [x0, x1]) rfl (Eq.mp (f168_eq x0 x1 Q w) h)

/-! pasodoble/schema.Find$1 -/
def f200 (x0 : Value) (x1 : Value) (Q : Value → World → Prop) (w : World) : Prop :=
  knew (Value.cells x0) 132 w fun v1 w2 =>
  kfld 0 v1 fun v3 =>
  kld v3 w2 fun v4 =>
  kld x1 w2 fun v5 =>
  kstr .eql v4 v5 fun v6 =>
  Q v6 w2

theorem f200_eq (x0 : Value) (x1 : Value) (Q : Value → World → Prop) (w : World) : f200 x0 x1 Q w = fnVC Tryz.prog Tryz.f200 [] (Tryz.f200.body.get rfl) [x0, x1] w Q := by kernel_rfl
theorem f200_ok {x0 : Value} {x1 : Value} {Q : Value → World → Prop} {w : World} (h : f200 x0 x1 Q w) : Meets Tryz.prog 200 #[x0, x1] w Q :=
  sound (c := (Tryz.f200.body.get rfl)) [] Tryz.func200 rfl rfl (args := [x0, x1]) rfl (Eq.mp (f200_eq x0 x1 Q w) h)

/-! pasodoble/schema.IsName -/
def f201_3 (x0 : Value) (x6 : Value) (x7 : Value) (x8 : Value) (J2 : Value → World → Prop) (Q : Value → World → Prop) (w : World) : Prop :=
  kint .i64 .add x8 (.int .i64 1) fun v11 =>
  J2 v11 w

def f201_2 (x0 : Value) (x6 : Value) (x7 : Value) (x8 : Value) (x17 : Value) (J2 : Value → World → Prop) (Q : Value → World → Prop) (w : World) : Prop :=
  kB x17 fun b12 => kIf b12
  (Q (.bool false) w)
  (f201_3 x0 x6 x7 x8 J2 Q w)

def f201_1 (x0 : Value) (x6 : Value) (x7 : Value) (x8 : Value) (J2 : Value → World → Prop) (Q : Value → World → Prop) (w : World) : Prop :=
  kix (some (.slice 5)) (some 1) x6 x8 fun v6 =>
  kld v6 w fun v7 =>
  kint .u8 .lss v7 (.int .u8 97) fun v8 =>
  kB v8 fun b9 => kIf (!b9)
  (kint .u8 .gtr v7 (.int .u8 122) fun v10 =>
  f201_2 x0 x6 x7 x8 v10 J2 Q w)
  (f201_2 x0 x6 x7 x8 (.bool true) J2 Q w)

def f201_4 (x0 : Value) (Q : Value → World → Prop) (w : World) : Prop :=
  klenStr x0 fun v13 =>
  kint .i64 .geq v13 (.int .i64 1) fun v15 =>
  kB v15 fun b16 => kIf b16
  (klenStr x0 fun v17 =>
  kint .i64 .leq v17 (.int .i64 8) fun v19 =>
  Q v19 w)
  (Q (.bool false) w)

def f201_0 (x8 : Value) (x0 : Value) (x6 : Value) (x7 : Value) (J2 : Value → World → Prop) (Q : Value → World → Prop) (w : World) : Prop :=
  kint .i64 .lss x8 x7 fun v5 =>
  kB v5 fun b20 => kIf b20
  (f201_1 x0 x6 x7 x8 J2 Q w)
  (f201_4 x0 Q w)

def f201 (x0 : Value) (Q : Value → World → Prop) (w : World) : Prop :=
  ksem Tryz.prog (convert 9 288 x0) w fun v1 w2 =>
  klen v1 fun v3 =>
  kL fun (I : Value → World → Prop) (μ : Value → World → Nat) => I (.int .i64 0) w2 ∧ ∀ (x8 : Value) (w1 : World), I x8 w1 →
  f201_0 x8 x0 v1 v3 (fun y8 w2 => I y8 w2 ∧ μ y8 w2 < μ x8 w1) Q w1

theorem f201_eq (x0 : Value) (Q : Value → World → Prop) (w : World) : f201 x0 Q w = fnVC Tryz.prog Tryz.f201 [(2, [8])] (Tryz.f201.body.get rfl) [x0] w Q := by kernel_rfl
theorem f201_ok {x0 : Value} {Q : Value → World → Prop} {w : World} (h : f201 x0 Q w) : Meets Tryz.prog 201 #[x0] w Q :=
  sound (c := (Tryz.f201.body.get rfl)) [(2, [8])] Tryz.func201 rfl rfl (args := [x0]) rfl (Eq.mp (f201_eq x0 Q w) h)

/-! pasodoble/schema.isClean -/
def f171_2 (x8 : Value) (x9 : Value) (x10 : Value) (J2 : Value → World → Prop) (Q : Value → World → Prop) (w : World) : Prop :=
  kint .i64 .add x10 (.int .i64 1) fun v13 =>
  J2 v13 w

def f171_1 (x8 : Value) (x9 : Value) (x10 : Value) (J2 : Value → World → Prop) (Q : Value → World → Prop) (w : World) : Prop :=
  kix (some (.slice 3)) (some 1) x8 x10 fun v10 =>
  kld v10 w fun v11 =>
  kint .i64 .neq v11 (.int .i64 0) fun v12 =>
  kB v12 fun b14 => kIf b14
  (Q (.bool false) w)
  (f171_2 x8 x9 x10 J2 Q w)

def f171_3 (Q : Value → World → Prop) (w : World) : Prop :=
  Q (.bool true) w

def f171_0 (x10 : Value) (x8 : Value) (x9 : Value) (J2 : Value → World → Prop) (Q : Value → World → Prop) (w : World) : Prop :=
  kint .i64 .lss x10 x9 fun v9 =>
  kB v9 fun b15 => kIf b15
  (f171_1 x8 x9 x10 J2 Q w)
  (f171_3 Q w)

def f171 (x0 : Value) (Q : Value → World → Prop) (w : World) : Prop :=
  knew (Value.cells x0) 132 w fun v1 w2 =>
  kfld 3 v1 fun v3 =>
  kfld 1 v1 fun v4 =>
  kld v4 w2 fun v5 =>
  ksl (some (.array 4 3)) (some 1) v3 (some v5) none fun v6 =>
  klen v6 fun v7 =>
  kL fun (I : Value → World → Prop) (μ : Value → World → Nat) => I (.int .i64 0) w2 ∧ ∀ (x10 : Value) (w1 : World), I x10 w1 →
  f171_0 x10 v6 v7 (fun y10 w2 => I y10 w2 ∧ μ y10 w2 < μ x10 w1) Q w1

theorem f171_eq (x0 : Value) (Q : Value → World → Prop) (w : World) : f171 x0 Q w = fnVC Tryz.prog Tryz.f171 [(2, [10])] (Tryz.f171.body.get rfl) [x0] w Q := by kernel_rfl
theorem f171_ok {x0 : Value} {Q : Value → World → Prop} {w : World} (h : f171 x0 Q w) : Meets Tryz.prog 171 #[x0] w Q :=
  sound (c := (Tryz.f171.body.get rfl)) [(2, [10])] Tryz.func171 rfl rfl (args := [x0]) rfl (Eq.mp (f171_eq x0 Q w) h)

/-! slices.IndexFunc[[]pasodoble/api.Component,pasodoble/api.Component] -/
def f199_2 (x0 : Value) (x1 : Value) (x7 : Value) (x8 : Value) (J2 : Value → World → Prop) (Q : Value → World → Prop) (w : World) : Prop :=
  kint .i64 .add x8 (.int .i64 1) fun v8 =>
  J2 v8 w

def f199_1 (x0 : Value) (x1 : Value) (x7 : Value) (x8 : Value) (J2 : Value → World → Prop) (Q : Value → World → Prop) (w : World) : Prop :=
  kix (some (.slice 132)) (some 7) x0 x8 fun v4 =>
  kldN 7 v4 w fun v5 =>
  kcallV Tryz.prog x1 [v5] w fun v6 w7 =>
  kB v6 fun b9 => kIf b9
  (Q x8 w7)
  (f199_2 x0 x1 x7 x8 J2 Q w7)

def f199_3 (Q : Value → World → Prop) (w : World) : Prop :=
  Q (.int .i64 (-1)) w

def f199_0 (x8 : Value) (x0 : Value) (x1 : Value) (x7 : Value) (J2 : Value → World → Prop) (Q : Value → World → Prop) (w : World) : Prop :=
  kint .i64 .lss x8 x7 fun v3 =>
  kB v3 fun b10 => kIf b10
  (f199_1 x0 x1 x7 x8 J2 Q w)
  (f199_3 Q w)

def f199 (x0 : Value) (x1 : Value) (Q : Value → World → Prop) (w : World) : Prop :=
  klen x0 fun v1 =>
  kL fun (I : Value → World → Prop) (μ : Value → World → Nat) => I (.int .i64 0) w ∧ ∀ (x8 : Value) (w1 : World), I x8 w1 →
  f199_0 x8 x0 x1 v1 (fun y8 w2 => I y8 w2 ∧ μ y8 w2 < μ x8 w1) Q w1

theorem f199_eq (x0 : Value) (x1 : Value) (Q : Value → World → Prop) (w : World) : f199 x0 x1 Q w = fnVC Tryz.prog Tryz.f199 [(2, [8])] (Tryz.f199.body.get rfl) [x0, x1] w Q := by kernel_rfl
theorem f199_ok {x0 : Value} {x1 : Value} {Q : Value → World → Prop} {w : World} (h : f199 x0 x1 Q w) : Meets Tryz.prog 199 #[x0, x1] w Q :=
  sound (c := (Tryz.f199.body.get rfl)) [(2, [8])] Tryz.func199 rfl rfl (args := [x0, x1]) rfl (Eq.mp (f199_eq x0 x1 Q w) h)

/-! strconv.Itoa -/
def f170 (x0 : Value) (Q : Value → World → Prop) (w : World) : Prop :=
  kcall Tryz.prog 202 #[x0] w fun v1 w2 =>
  Q v1 w2

theorem f170_eq (x0 : Value) (Q : Value → World → Prop) (w : World) : f170 x0 Q w = fnVC Tryz.prog Tryz.f170 [] (Tryz.f170.body.get rfl) [x0] w Q := by kernel_rfl
theorem f170_ok {x0 : Value} {Q : Value → World → Prop} {w : World} (h : f170 x0 Q w) : Meets Tryz.prog 170 #[x0] w Q :=
  sound (c := (Tryz.f170.body.get rfl)) [] Tryz.func170 rfl rfl (args := [x0]) rfl (Eq.mp (f170_eq x0 Q w) h)

/-! internal/strconv.Itoa -/
def f202 (x0 : Value) (Q : Value → World → Prop) (w : World) : Prop :=
  kcall Tryz.prog 229 #[x0, (.int .i64 10)] w fun v1 w2 =>
  Q v1 w2

theorem f202_eq (x0 : Value) (Q : Value → World → Prop) (w : World) : f202 x0 Q w = fnVC Tryz.prog Tryz.f202 [] (Tryz.f202.body.get rfl) [x0] w Q := by kernel_rfl
theorem f202_ok {x0 : Value} {Q : Value → World → Prop} {w : World} (h : f202 x0 Q w) : Meets Tryz.prog 202 #[x0] w Q :=
  sound (c := (Tryz.f202.body.get rfl)) [] Tryz.func202 rfl rfl (args := [x0]) rfl (Eq.mp (f202_eq x0 Q w) h)

/-! internal/strconv.FormatInt -/
def f229_3 (x5 : Value) (x7 : Value) (Q : Value → World → Prop) (w : World) : Prop :=
  kint .i64 .add (.int .i64 1) x7 fun v25 =>
  ksl (some (.array 24 5)) (some 1) x5 (some (.int .i64 1)) (some v25) fun v26 =>
  ksem Tryz.prog (convert 288 9 v26) w fun v27 w28 =>
  Q v27 w28

def f229_2 (x0 : Value) (x5 : Value) (x6 : Value) (Q : Value → World → Prop) (w : World) : Prop :=
  kcall Tryz.prog 240 #[x6] w fun v12 w13 =>
  kint .i64 .add (.int .i64 1) v12 fun v14 =>
  ksl (some (.array 24 5)) (some 1) x5 (some (.int .i64 1)) (some v14) fun v15 =>
  kcall Tryz.prog 241 #[v15, x6] w13 fun v16 w17 =>
  kint .i64 .lss x0 (.int .i64 0) fun v18 =>
  kB v18 fun b29 => kIf b29
  (kix (some (.array 24 5)) (some 1) x5 (.int .i64 0) fun v19 =>
  kst 1 v19 (.int .u8 45) w17 fun w20 =>
  kint .i64 .add (.int .i64 1) v12 fun v21 =>
  ksl (some (.array 24 5)) (some 1) x5 none (some v21) fun v22 =>
  ksem Tryz.prog (convert 288 9 v22) w20 fun v23 w24 =>
  Q v23 w24)
  (f229_3 x5 v12 Q w17)

def f229_1 (x0 : Value) (Q : Value → World → Prop) (w : World) : Prop :=
  knew #[(.int .u8 0), (.int .u8 0), (.int .u8 0), (.int .u8 0), (.int .u8 0), (.int .u8 0), (.int .u8 0), (.int .u8 0), (.int .u8 0), (.int .u8 0), (.int .u8 0), (.int .u8 0), (.int .u8 0), (.int .u8 0), (.int .u8 0), (.int .u8 0), (.int .u8 0), (.int .u8 0), (.int .u8 0), (.int .u8 0), (.int .u8 0), (.int .u8 0), (.int .u8 0), (.int .u8 0)] 339 w fun v7 w8 =>
  kcnv .u64 x0 fun v9 =>
  kint .i64 .lss x0 (.int .i64 0) fun v10 =>
  kB v10 fun b30 => kIf b30
  (kun .neg (some (.int .u64)) v9 fun v11 =>
  f229_2 x0 v7 v11 Q w8)
  (f229_2 x0 v7 v9 Q w8)

def f229_0 (x0 : Value) (x17 : Value) (Q : Value → World → Prop) (w : World) : Prop :=
  kB x17 fun b31 => kIf b31
  (kcall Tryz.prog 239 #[x0] w fun v5 w6 =>
  Q v5 w6)
  (f229_1 x0 Q w)

def f229_4 (x0 : Value) (x1 : Value) (Q : Value → World → Prop) (w : World) : Prop :=
  kcnv .u64 x0 fun v32 =>
  kint .i64 .lss x0 (.int .i64 0) fun v33 =>
  kcall Tryz.prog 242 #[(.slice none 0 0), v32, x1, v33, (.bool false)] w fun v34 w35 =>
  kext v34 0 fun v36 =>
  kext v34 1 fun v37 =>
  Q v37 w35

def f229 (x0 : Value) (x1 : Value) (Q : Value → World → Prop) (w : World) : Prop :=
  kint .i64 .eql x1 (.int .i64 10) fun v1 =>
  kB v1 fun b38 => kIf b38
  (kint .i64 .leq (.int .i64 0) x0 fun v2 =>
  kB v2 fun b3 => kIf b3
  (kint .i64 .lss x0 (.int .i64 100) fun v4 =>
  f229_0 x0 v4 Q w)
  (f229_0 x0 (.bool false) Q w))
  (f229_4 x0 x1 Q w)

theorem f229_eq (x0 : Value) (x1 : Value) (Q : Value → World → Prop) (w : World) : f229 x0 x1 Q w = fnVC Tryz.prog Tryz.f229 [] (Tryz.f229.body.get rfl) [x0, x1] w Q := by kernel_rfl
theorem f229_ok {x0 : Value} {x1 : Value} {Q : Value → World → Prop} {w : World} (h : f229 x0 x1 Q w) : Meets Tryz.prog 229 #[x0, x1] w Q :=
  sound (c := (Tryz.f229.body.get rfl)) [] Tryz.func229 rfl rfl (args := [x0, x1]) rfl (Eq.mp (f229_eq x0 x1 Q w) h)

/-! internal/strconv.small -/
def f239_0 (x0 : Value) (Q : Value → World → Prop) (w : World) : Prop :=
  kint .i64 .mul x0 (.int .i64 2) fun v4 =>
  kint .i64 .mul x0 (.int .i64 2) fun v5 =>
  kint .i64 .add v5 (.int .i64 2) fun v6 =>
  ksl (some .string) none (.string ⟨#[48, 48, 48, 49, 48, 50, 48, 51, 48, 52, 48, 53, 48, 54, 48, 55, 48, 56, 48, 57, 49, 48, 49, 49, 49, 50, 49, 51, 49, 52, 49, 53, 49, 54, 49, 55, 49, 56, 49, 57, 50, 48, 50, 49, 50, 50, 50, 51, 50, 52, 50, 53, 50, 54, 50, 55, 50, 56, 50, 57, 51, 48, 51, 49, 51, 50, 51, 51, 51, 52, 51, 53, 51, 54, 51, 55, 51, 56, 51, 57, 52, 48, 52, 49, 52, 50, 52, 51, 52, 52, 52, 53, 52, 54, 52, 55, 52, 56, 52, 57, 53, 48, 53, 49, 53, 50, 53, 51, 53, 52, 53, 53, 53, 54, 53, 55, 53, 56, 53, 57, 54, 48, 54, 49, 54, 50, 54, 51, 54, 52, 54, 53, 54, 54, 54, 55, 54, 56, 54, 57, 55, 48, 55, 49, 55, 50, 55, 51, 55, 52, 55, 53, 55, 54, 55, 55, 55, 56, 55, 57, 56, 48, 56, 49, 56, 50, 56, 51, 56, 52, 56, 53, 56, 54, 56, 55, 56, 56, 56, 57, 57, 48, 57, 49, 57, 50, 57, 51, 57, 52, 57, 53, 57, 54, 57, 55, 57, 56, 57, 57]⟩) (some v4) (some v6) fun v7 =>
  Q v7 w

def f239 (x0 : Value) (Q : Value → World → Prop) (w : World) : Prop :=
  kint .i64 .lss x0 (.int .i64 10) fun v1 =>
  kB v1 fun b8 => kIf b8
  (kint .i64 .add x0 (.int .i64 1) fun v2 =>
  ksl (some .string) none (.string ⟨#[48, 49, 50, 51, 52, 53, 54, 55, 56, 57, 97, 98, 99, 100, 101, 102, 103, 104, 105, 106, 107, 108, 109, 110, 111, 112, 113, 114, 115, 116, 117, 118, 119, 120, 121, 122]⟩) (some x0) (some v2) fun v3 =>
  Q v3 w)
  (f239_0 x0 Q w)

theorem f239_eq (x0 : Value) (Q : Value → World → Prop) (w : World) : f239 x0 Q w = fnVC Tryz.prog Tryz.f239 [] (Tryz.f239.body.get rfl) [x0] w Q := by kernel_rfl
theorem f239_ok {x0 : Value} {Q : Value → World → Prop} {w : World} (h : f239 x0 Q w) : Meets Tryz.prog 239 #[x0] w Q :=
  sound (c := (Tryz.f239.body.get rfl)) [] Tryz.func239 rfl rfl (args := [x0]) rfl (Eq.mp (f239_eq x0 Q w) h)

end Go.Proofs.YtlkpadfkmdgjcaaGreatDoor
end
section
set_option linter.unusedSimpArgs false
set_option linter.unusedVariables false
namespace Go.Proofs.YtlkpadfkmdgjcaaGreatDoor
open Go Go.Ev
set_option linter.unusedVariables false
set_option linter.unusedSimpArgs false
set_option maxRecDepth 100000
attribute [local irreducible] kO kB kStr kInt kN kG kIf kfld kld kldN kst knew kmap kbld kbldS kext kcnv klenStr klen kcap kprt kprtN kbool kint kstr keq kun ksl kix kiv kta kmk kmm ksem ksemU kextf kcallV kcallM kcall kL

/-! ### A schema that is right -/
def byV (x : UInt8) : Value := .int .u8 (x.toNat : Int)
theorem slBy : Tryz.prog.underlying 288 = some (.slice 5) := by kernel_rfl
theorem uBy : Tryz.prog.underlying 5 = some (.int .u8) := by kernel_rfl
theorem uSt : Tryz.prog.underlying 9 = some .string := by kernel_rfl
theorem ksem_tobytes {w : World} {s : ByteArray} {K : Value → World → Prop} (h : ∀ c w', Same w w' → SlIs w' (some ⟨w.heap.size, 0, none⟩) s.size 1 (s.data.toList.map byV) → K (.slice (some ⟨w.heap.size, 0, none⟩) s.size c) w') :
    ksem Tryz.prog (convert 9 288 (.string s)) w K := by
  rw [ksem_ok (Go.Lib.run_convert_string_bytes w _ _ _ s uSt slBy uBy)]
  refine h _ _ ⟨rfl, rfl, rfl, by rw [Go.Lib.bytesWorld_size]; omega, fun k hk _ => Go.Lib.bytesWorld_at_old w _ s k hk⟩ ⟨by rw [List.length_map, Nat.mul_one]; rfl, .inr ⟨_, 0, _, _, _, rfl, Go.Lib.bytesWorld_at_new w _ s, ?_⟩⟩
  have e : (Go.Lib.bytesCells w 5 s).toList = s.data.toList.map byV ++ List.replicate (grownCap w s.size 0 5 - s.size) (.int .u8 0) := by
    unfold Go.Lib.bytesCells
    rw [Array.toList_append, Array.toList_map, Array.toList_replicate]; rfl
  rw [e, List.drop_zero, List.take_append_of_le_length (by rw [List.length_map]; exact Nat.le_of_eq (Nat.mul_one _)), List.take_of_length_le (by rw [List.length_map]; exact Nat.le_of_eq (Nat.mul_one _).symm)]
def NameOk (s : ByteArray) : Prop := 1 ≤ s.size ∧ s.size ≤ 8 ∧ ∀ x ∈ s.data.toList, 97 ≤ x.toNat ∧ x.toNat ≤ 122
theorem isName_spec {s : ByteArray} (h : NameOk s) (w : World) : Meets Tryz.prog 201 #[.string s] w fun v w' => v = .bool true ∧ Same w w' := by
  obtain ⟨h1, h8, hall⟩ := h
  refine f201_ok ?_
  unfold f201
  refine ksem_tobytes fun c w2 h2 hs2 => ?_
  have hsz : s.data.toList.length = s.size := rfl
  refine klen_at ?_
  refine kL1_of s.size (fun j x wr => x = .int .i64 j ∧ wr = w2) ⟨lI1_0 ⟨rfl, rfl⟩, fun x wr hx => ?_⟩
  obtain ⟨j, hj, ⟨rfl, rfl⟩, hJ⟩ := lI1_step hx
  unfold f201_0
  refine lss_at ?_
  refine kB_at ?_
  refine kIf_dec (fun hlt => ?_) (fun hge => ?_)
  · have hlt : j < s.size := by omega
    have hjl : j < s.data.toList.length := by omega
    have hb := hall _ (List.getElem_mem hjl)
    unfold f201_1
    have := hs2
    rw [← hsz] at this
    refine kixld_of (F := byV) (l := s.data.toList) this hjl rfl ?_ |> fun h => by rw [hsz] at h; exact h
    generalize s.data.toList[j] = x at *
    rw [byV]
    refine lss_at ?_
    rw [decF (by omega)]
    refine kB_at ?_
    refine kIf_T rfl ?_
    refine gtr_at ?_
    rw [decF (by omega)]
    unfold f201_2
    refine kB_at ?_
    refine kIf_F rfl ?_
    repeat (first | refine kN_at ?_ | refine kB_at ?_ | refine kfld_of ?_ | refine kext_at rfl ?_ | refine kG_of (by first | exact rfl | omega) ?_ | refine klen_at ?_ | refine eql_at ?_ | refine neq_at ?_ | refine lss_at ?_ | refine leq_at ?_ | refine gtr_at ?_ | refine geq_at ?_ | refine add_at (by omega) (by omega) ?_ | refine sub_at (by omega) (by omega) ?_ | refine not_at ?_ | refine kO_at ?_ | refine kprt_at rfl ?_ | refine kprtN_at rfl ?_ | refine kcap_at ?_ | refine klenStr_at ?_ | refine kN_iat ?_ | refine kN_fat ?_ | refine kIf_T (by first | exact rfl | exact decT (by omega) | exact notT (decF (by omega))) ?_ | refine kIf_F (by first | exact rfl | exact decF (by omega) | exact notF (decT (by omega))) ?_)
    rw [cast_succ]
    exact hJ _ _ hlt ⟨rfl, rfl⟩
  · unfold f201_4
    refine klenStr_at ?_
    refine geq_at ?_
    rw [decT (by omega)]
    refine kB_at ?_
    refine kIf_T rfl ?_
    refine klenStr_at ?_
    refine leq_at ?_
    rw [decT (by omega)]
    exact ⟨rfl, h2⟩
theorem find1_spec (q : Comp) {w : World} {bc : Nat} {s : ByteArray} (hb : blk w bc = some (.cells #[.string s] 9)) : Meets Tryz.prog 200 #[.agg q.cells.toArray, .pointer (some ⟨bc, 0, none⟩)] w fun v w' => v = .bool (decide (q.name = s)) ∧ Same w w' := by
  refine f200_ok ?_
  refine knew_of fun w2 hm2 hs2 hb2 => ?_
  have hb2 : blk w2 w.heap.size = some (.cells q.cells.toArray 132) := hb2
  have hbc := hm2.get hb (fun h => h)
  refine kfld_of ?_
  refine kld_of (v := .string q.name) hb2 (by simp [Comp.cells]) ?_
  refine kld_of (v := .string s) hbc rfl ?_
  rw [kstr_eql]
  exact ⟨rfl, hm2⟩
theorem indexC_spec {w : World} {a : Option Addr} {L : List Comp} {cp : Nat} (hs : SlIs w a L.length 7 (L.flatMap Comp.cells)) {bc : Nat} {s : ByteArray} (hb : blk w bc = some (.cells #[.string s] 9)) {k : Nat} (hk : k < L.length) (hkc : (L[k]).name = s) (hbef : ∀ j (hj : j < L.length), j < k → (L[j]).name ≠ s) (hlen : L.length ≤ 1000000) :
    Meets Tryz.prog 199 #[.slice a L.length cp, .func (.func 200) #[] #[.pointer (some ⟨bc, 0, none⟩)]] w fun v w' => v = .int .i64 k ∧ Same w w' := by
  refine f199_ok ?_
  unfold f199
  refine klen_at ?_
  refine kL1_of L.length (fun j x wr => x = .int .i64 j ∧ j ≤ k ∧ Same w wr) ⟨lI1_0 ⟨rfl, by omega, Mod.refl _ _⟩, fun x wr hx => ?_⟩
  obtain ⟨j, hj, ⟨rfl, hjk, hm⟩, hJ⟩ := lI1_step hx
  unfold f199_0
  refine lss_at ?_
  refine kB_at ?_
  refine kIf_dec (fun hlt => ?_) (fun hge => ?_)
  · have hlt : j < L.length := by omega
    unfold f199_1
    refine kixldN_of (F := Comp.cells) (sz := 7) (fun _ => rfl) (by omega) (hs.same hm) hlt rfl ?_
    refine kcallC_of (find1_spec L[j] (hm.get hb (fun h => h))) ?_
    rintro v w7 ⟨rfl, h7⟩
    by_cases hjk' : j = k
    · subst hjk'
      rw [hkc]
      rw [decT rfl]
      refine kB_at ?_
      refine kIf_T rfl ?_
      exact ⟨rfl, hm.trans h7⟩
    · rw [decF (hbef j hlt (by omega))]
      refine kB_at ?_
      refine kIf_F rfl ?_
      unfold f199_2
      repeat (first | refine kN_at ?_ | refine kB_at ?_ | refine kfld_of ?_ | refine kext_at rfl ?_ | refine kG_of (by first | exact rfl | omega) ?_ | refine klen_at ?_ | refine eql_at ?_ | refine neq_at ?_ | refine lss_at ?_ | refine leq_at ?_ | refine gtr_at ?_ | refine geq_at ?_ | refine add_at (by omega) (by omega) ?_ | refine sub_at (by omega) (by omega) ?_ | refine not_at ?_ | refine kO_at ?_ | refine kprt_at rfl ?_ | refine kprtN_at rfl ?_ | refine kcap_at ?_ | refine klenStr_at ?_ | refine kN_iat ?_ | refine kN_fat ?_ | refine kIf_T (by first | exact rfl | exact decT (by omega) | exact notT (decF (by omega))) ?_ | refine kIf_F (by first | exact rfl | exact decF (by omega) | exact notF (decT (by omega))) ?_)
      rw [cast_succ]
      exact hJ _ _ hlt ⟨rfl, by omega, hm.trans h7⟩
  · omega
/-- A schema's components that are right. -/
structure GoodSc (L : List Comp) : Prop where
  len : L.length ≤ 16
  names : ∀ q ∈ L, NameOk q.name
  apart : ∀ i j (hi : i < L.length) (hj : j < L.length), L[i].name = L[j].name → i = j
  wide : ∀ q ∈ L, ∃ d : Nat, q.width = (d : Int) ∧ 1 ≤ d ∧ d ≤ 4
  zero : ∀ q ∈ L, q.d0 = 0 ∧ q.d1 = 0 ∧ q.d2 = 0 ∧ q.d3 = 0
def scV (a : Option Addr) (n c : Nat) (rv : Value) : Value := .agg #[.slice a n c, rv]
theorem find_spec {w : World} {a : Option Addr} {L : List Comp} {cp : Nat} {ra : Option Addr} {rn rc : Nat} (hs : SlIs w a L.length 7 (L.flatMap Comp.cells)) (hG : GoodSc L) {k : Nat} (hk : k < L.length) :
    Meets Tryz.prog 168 #[scV a L.length cp (.slice ra rn rc), .string (L[k]).name] w fun v w' => v = .tuple #[.int .i64 k, .bool true] ∧ Same w w' := by
  have hl := hG.len
  rw [scV]
  refine f168_ok ?_
  unfold f168
  refine knew_of fun w2 hm2 hs2 hb2 => ?_
  have hb2 : blk w2 w.heap.size = some (.cells #[.slice a L.length cp, .slice ra rn rc] 34) := hb2
  refine knew_of fun w4 hm4 hs4 hb4 => ?_
  have hb4 : blk w4 w2.heap.size = some (.cells #[.string (L[k]).name] 9) := hb4
  have hb24 := hm4.get hb2 (fun h => h)
  repeat (first | refine kN_at ?_ | refine kB_at ?_ | refine kfld_of ?_ | refine kext_at rfl ?_ | refine kld_at hb24 rfl ?_ | refine kldN_at hb24 rfl (by omega) ?_ | refine kG_of (by first | exact rfl | omega) ?_ | refine klen_at ?_ | refine eql_at ?_ | refine neq_at ?_ | refine lss_at ?_ | refine leq_at ?_ | refine gtr_at ?_ | refine geq_at ?_ | refine add_at (by omega) (by omega) ?_ | refine sub_at (by omega) (by omega) ?_ | refine not_at ?_ | refine kO_at ?_ | refine kprt_at rfl ?_ | refine kprtN_at rfl ?_ | refine kcap_at ?_ | refine klenStr_at ?_ | refine kN_iat ?_ | refine kN_fat ?_ | refine kIf_T (by first | exact rfl | exact decT (by omega) | exact notT (decF (by omega))) ?_ | refine kIf_F (by first | exact rfl | exact decF (by omega) | exact notF (decT (by omega))) ?_)
  refine kcall_of (indexC_spec (hs.same (hm2.trans hm4)) hb4 hk rfl (fun j hj hjk e => by have := hG.apart j k hj hk e; omega) (by omega)) ?_
  rintro v w8 ⟨rfl, h8⟩
  rw [kmm_max]
  refine geq_at ?_
  rw [decT (by omega), show max (k : Int) 0 = (k : Int) by omega]
  exact ⟨rfl, (hm2.trans hm4).trans h8⟩
end Go.Proofs.YtlkpadfkmdgjcaaGreatDoor
end
section
set_option linter.unusedSimpArgs false
set_option linter.unusedVariables false
namespace Go.Proofs.YtlkpadfkmdgjcaaGreatDoor
open Go Go.Ev
set_option linter.unusedVariables false
set_option linter.unusedSimpArgs false
set_option maxRecDepth 100000

def rollF (l : List Bool) : Nat := l.zipIdx.foldl (fun m p => if p.1 then m ||| bitF p.2 else m) 0
theorem rollF_snoc (l : List Bool) (x : Bool) : rollF (l ++ [x]) = if x then rollF l ||| bitF l.length else rollF l := by
  simp [rollF, List.zipIdx_append]
theorem fold_lt {α : Type} (f : Nat → α → Nat) (hf : ∀ m x, m < 4294967296 → f m x < 4294967296) : ∀ (l : List α) (m : Nat), m < 4294967296 → l.foldl f m < 4294967296
  | [], m, h => h
  | x :: l, m, h => fold_lt f hf l _ (hf m x h)
theorem or_lt {a b : Nat} (ha : a < 4294967296) (hb : b < 4294967296) : a ||| b < 4294967296 := Nat.or_lt_two_pow (n := 32) (by omega) (by omega)
theorem rollF_lt (l : List Bool) : rollF l < 4294967296 := by
  refine fold_lt _ (fun m x h => ?_) _ 0 (by omega)
  split
  · exact or_lt h (bitF_lt _)
  · exact h

def KindsInv (w : World) (l : List Comp) (x y : Value) (wr : World) : Prop := ∃ i : Nat, i ≤ l.length ∧ y = .int .i64 i ∧ x = msk (rollF ((l.map (·.rb)).take i)) ∧ Same w wr
theorem kinds_spec (l : List Comp) (hn : l.length ≤ 4611686018427387903) (a : Option Addr) (c : Nat) (r : Value) (w : World) (hs : SlIs w a l.length 7 (l.flatMap Comp.cells)) (hr : r.cells = #[r]) :
    Meets Tryz.prog 183 #[.agg #[.slice a l.length c, r], .bool true] w fun v w' => v = msk (rollF (l.map (·.rb))) ∧ Same w w' := by
  refine f183_ok ?_
  unfold f183
  simp -dsimp [Value.cells]
  refine kL_of (KindsInv w l) (fun _ y _ => l.length - (RowKit.intOf y).toNat) ⟨⟨0, by omega, rfl, by simp [rollF, msk], (Mod.refl _ _).alloc _⟩, ?_⟩
  rintro x y wr ⟨i, hi, rfl, rfl, hm⟩
  unfold f183_0
  simp -dsimp
  refine kIf_dec (fun hlt => ?_) (fun hge => ?_)
  · have hlt : i < l.length := by omega
    obtain ⟨b, o, c', t', f', rfl, hb, hle, hcs⟩ := (hs.same hm).at hlt (by omega)
    rw [flat_get Comp.cells 7 (fun _ => rfl) l i hlt] at hcs
    have htk : (l.map (·.rb)).take (i + 1) = (l.map (·.rb)).take i ++ [l[i].rb] := by rw [List.take_succ_eq_append_getElem (by simpa using hlt)]; simp
    have hlen : ((l.map (·.rb)).take i).length = i := by simp; omega
    generalize l[i] = p at *
    have hadd := i64_succ (i := i) (by omega)
    unfold f183_1
    simp -dsimp [hlt, hb, hle, hcs, Comp.cells]
    have hal : ∀ o, Same w (wr.alloc o) := fun o => hm.alloc o
    cases hrb : p.rb with
    | true =>
      simp -dsimp
      refine kcall_of (with_spec _ _ (rollF_lt _) (by omega) (by omega) _) ?_
      rintro v w' ⟨rfl, rfl⟩
      unfold f183_2
      simp -dsimp [hadd]
      refine ⟨⟨i + 1, by omega, rfl, ?_, hal _⟩, by simp [RowKit.intOf]; omega⟩
      rw [htk, rollF_snoc, hrb, if_pos rfl, hlen]
    | false =>
      simp -dsimp
      unfold f183_2
      simp -dsimp [hadd]
      refine ⟨⟨i + 1, by omega, rfl, ?_, hal _⟩, by simp [RowKit.intOf]; omega⟩
      rw [htk, rollF_snoc, hrb, if_neg (by decide)]
  · have : i = l.length := by omega
    subst this
    unfold f183_3
    exact ⟨by rw [List.take_of_length_le (by simp)], hm⟩

theorem Rollback_spec (l : List Comp) (hn : l.length ≤ 4611686018427387903) (a : Option Addr) (c : Nat) (r : Value) (w : World) (hs : SlIs w a l.length 7 (l.flatMap Comp.cells)) (hr : r.cells = #[r]) :
    Meets Tryz.prog 160 #[.agg #[.slice a l.length c, r]] w fun v w' => v = msk (rollF (l.map (·.rb))) ∧ Same w w' := by
  refine f160_ok ?_
  unfold f160
  simp -dsimp [Value.cells]
  refine kcall_of (kinds_spec l hn a c r _ (hs.same (same_alloc _ _)) hr) ?_
  rintro v w' ⟨rfl, hm⟩
  exact ⟨rfl, (same_alloc _ _).trans hm⟩

/-! ### What is wrong with a filter -/
def flawF (wh : ByteArray) (k m all : Nat) : List Leaf := if andN m all = 0 then [] else [([wh], k)]
theorem flaw_spec {S : Nat → Addr} {w : World} (wh : ByteArray) (k m all : Nat) (k1 : 1 ≤ k) (k2 : k ≤ 18) (hm : m < 4294967296) (ha : all < 4294967296) :
    Meets Tryz.prog 161 #[.string wh, errV S k, msk m, msk all] w fun v w' => ErrO S w' 1 v (flawF wh k m all) ∧ Same w w' := by
  refine f161_ok ?_
  unfold f161
  refine kcall_of (within_spec m all hm ha w) ?_
  rintro v w' ⟨rfl, rfl⟩
  simp -dsimp
  refine kIf_dec (fun h => ?_) (fun h => ?_)
  · exact ⟨.inl ⟨rfl, by simp [flawF, h]⟩, Mod.refl _ _⟩
  · unfold f161_0
    refine kcall_of (At_spec (d := 0) (ls := [([], k)]) (.inr ⟨k, k1, k2, rfl, rfl⟩) wh) ?_
    rintro v w' ⟨h1, h2⟩
    exact ⟨by simpa [flawF, h] using h1, h2⟩
theorem rdArg {S : Nat → Addr} {w : World} (h : LaidE S w) : cellO (blk w 5) 0 = some (errV S 1) := h.read (by omega) (by omega) rfl
theorem rdTwice {S : Nat → Addr} {w : World} (h : LaidE S w) : cellO (blk w 0) 0 = some (errV S 9) := h.read (by omega) (by omega) rfl
theorem rdNone {S : Nat → Addr} {w : World} (h : LaidE S w) : cellO (blk w 1) 0 = some (errV S 7) := h.read (by omega) (by omega) rfl
def sWith : ByteArray := ⟨#[119, 105, 116, 104]⟩
def sWithout : ByteArray := ⟨#[119, 105, 116, 104, 111, 117, 116]⟩
def sChanged : ByteArray := ⟨#[99, 104, 97, 110, 103, 101, 100]⟩
def checkF (all : Nat) (f : Filter) : List Leaf :=
  flawF sWith 1 f.wth all ++ (flawF sWithout 1 f.wout all ++ (flawF sChanged 1 f.chg all ++ (flawF sWithout 9 (f.wth &&& f.wout) 0 ++ flawF sChanged 7 f.chg f.wth)))
theorem ErrO.cells {S : Nat → Addr} {w : World} {d : Nat} {v : Value} {ls : List Leaf} (h : ErrO S w d v ls) : v.cells = #[v] := by
  rcases h.nil_iff with ⟨_, rfl⟩ | ⟨_, t, u, rfl⟩ <;> rfl
theorem flawF_len (wh : ByteArray) (k m all : Nat) : (flawF wh k m all).length ≤ 1 := by unfold flawF; split <;> simp

set_option maxHeartbeats 400000 in
theorem Check_spec {S : Nat → Addr} {w : World} (hL : LaidE S w) (l : List Comp) (hn : l.length ≤ 4611686018427387903) (a : Option Addr) (c : Nat) (r : Value) (hs : SlIs w a l.length 7 (l.flatMap Comp.cells)) (hr : r.cells = #[r]) (f : Filter) (hf : f.ok) :
    Meets Tryz.prog 118 #[.agg #[.slice a l.length c, r], f.val] w fun v w' => ErrO S w' 2 v (checkF (rollF (l.map (·.rb))) f) ∧ Same w w' := by
  obtain ⟨hf1, hf2, hf3⟩ := hf
  have e := u32_and hf1 hf2
  have hal := rollF_lt (l.map (·.rb))
  have hand : f.wth &&& f.wout < 4294967296 := Nat.lt_of_le_of_lt Nat.and_le_left hf1
  refine f118_ok ?_
  unfold f118
  refine knew_of fun w2 h2 _ hb1 => ?_
  refine knew_of fun w4 h4' _ hb2 => ?_
  simp only [Value.cells, Filter.val] at hb1 hb2
  have hb1 := h4'.get hb1 (fun h => h)
  have h4 : Same w w4 := h2.trans h4'
  simp -dsimp [hb1, hr]
  refine kcall_of (Rollback_spec l hn a c r w4 (hs.same h4) hr) ?_
  rintro v w7 ⟨rfl, h7⟩
  have hb7 := h7.get hb2 (fun h => h)
  have hL7 := hL.same (h4.trans h7)
  simp -dsimp [hb7, rdArg hL7]
  refine kcall_of (flaw_spec (S := S) _ 1 _ _ (by omega) (by omega) hf1 hal) ?_
  rintro u1 w12 ⟨he1, h12⟩
  have h12 : Same w7 w12 := ((Mod.refl _ _).drew).trans h12
  have hb12 := h12.get hb7 (fun h => h)
  have hL12 := hL7.same h12
  simp -dsimp [hb7, hb12, rdArg hL7, rdArg hL12]
  refine kcall_of (flaw_spec (S := S) _ 1 _ _ (by omega) (by omega) hf2 hal) ?_
  rintro u2 w17 ⟨he2, h17⟩
  have hb17 := h17.get hb12 (fun h => h)
  have hL17 := hL12.same h17
  simp -dsimp [hb7, hb12, hb17, rdArg hL7, rdArg hL12, rdArg hL17]
  refine kcall_of (flaw_spec (S := S) _ 1 _ _ (by omega) (by omega) hf3 hal) ?_
  rintro u3 w22 ⟨he3, h22⟩
  have hb22 := h22.get hb17 (fun h => h)
  have hL22 := hL17.same h22
  simp -dsimp [hb7, hb12, hb17, hb22, rdTwice hL7, rdTwice hL12, rdTwice hL17, rdTwice hL22]
  have e' : Value.int .u32 (iand .u32 (f.wth : Int) (f.wout : Int)) = msk (f.wth &&& f.wout) := by rw [e]; rfl
  simp -dsimp [msk]
  have h9 := flaw_spec (S := S) (w := w22) ⟨#[119, 105, 116, 104, 111, 117, 116]⟩ 9 (f.wth &&& f.wout) 0 (by omega) (by omega) hand (by omega)
  rw [← e'] at h9
  refine kcall_of h9 ?_
  rintro u4 w30 ⟨he4, h30⟩
  have hb30 := h30.get hb22 (fun h => h)
  have hL30 := hL22.same h30
  simp -dsimp [hb7, hb12, hb17, hb22, hb30, rdNone hL7, rdNone hL12, rdNone hL17, rdNone hL22, rdNone hL30]
  refine kcall_of (flaw_spec (S := S) _ 7 _ _ (by omega) (by omega) hf3 hf1) ?_
  rintro u5 w37 ⟨he5, h37⟩
  refine kbldS_of (cs := [u1, u2, u3, u4, u5]) ?_ fun w39 h39 _ hb39 => ?_
  · simp only [fillL, he1.cells, he2.cells, he3.cells, he4.cells, he5.cells]; rfl
  refine kcall_of (All_spec (S := S) (d := 1) (zs := [(u1, flawF ⟨#[119, 105, 116, 104]⟩ 1 f.wth (rollF (l.map (·.rb)))), (u2, flawF ⟨#[119, 105, 116, 104, 111, 117, 116]⟩ 1 f.wout (rollF (l.map (·.rb)))), (u3, flawF ⟨#[99, 104, 97, 110, 103, 101, 100]⟩ 1 f.chg (rollF (l.map (·.rb)))), (u4, flawF ⟨#[119, 105, 116, 104, 111, 117, 116]⟩ 9 (f.wth &&& f.wout) 0), (u5, flawF ⟨#[99, 104, 97, 110, 103, 101, 100]⟩ 7 f.chg f.wth)]) (SlIs.blk hb39 (by simp)) ?_ ?_ (by simp)) ?_
  · intro p hp
    simp only [List.mem_cons, List.not_mem_nil, or_false] at hp
    rcases hp with rfl | rfl | rfl | rfl | rfl
    · exact he1.same (h17.trans (h22.trans (h30.trans (h37.trans h39))))
    · exact he2.same (h22.trans (h30.trans (h37.trans h39)))
    · exact he3.same (h30.trans (h37.trans h39))
    · exact he4.same (h37.trans h39)
    · exact he5.same h39
  · simp only [List.flatMap_cons, List.flatMap_nil, List.length_append, List.length_nil]
    have := flawF_len
    have g1 := flawF_len ⟨#[119, 105, 116, 104]⟩ 1 f.wth (rollF (l.map (·.rb)))
    have g2 := flawF_len ⟨#[119, 105, 116, 104, 111, 117, 116]⟩ 1 f.wout (rollF (l.map (·.rb)))
    have g3 := flawF_len ⟨#[99, 104, 97, 110, 103, 101, 100]⟩ 1 f.chg (rollF (l.map (·.rb)))
    have g4 := flawF_len ⟨#[119, 105, 116, 104, 111, 117, 116]⟩ 9 (f.wth &&& f.wout) 0
    have g5 := flawF_len ⟨#[99, 104, 97, 110, 103, 101, 100]⟩ 7 f.chg f.wth
    omega
  rintro v w41 ⟨hv, h41⟩
  refine ⟨?_, h4.trans (h7.trans (h12.trans (h17.trans (h22.trans (h30.trans (h37.trans (h39.trans h41)))))))⟩
  simpa [checkF, sWith, sWithout, sChanged] using hv
end Go.Proofs.YtlkpadfkmdgjcaaGreatDoor
end
section
set_option linter.unusedSimpArgs false
set_option linter.unusedVariables false
namespace Go.Proofs.YtlkpadfkmdgjcaaGreatDoor
open Go Go.Ev
set_option linter.unusedVariables false
set_option maxRecDepth 100000

/-! pasodoble/pasodoblelaw11.QueryStands -/
def f10_6 (x0 : Value) (x2 : Value) (x4 : Value) (x7 : Value) (x8 : Value) (x9 : Value) (x11 : Value) (x12 : Value) (x13 : Value) (J12 : Value → Value → World → Prop) (Q : Value → World → Prop) (w : World) : Prop :=
  kint .i64 .add x13 (.int .i64 1) fun v36 =>
  J12 x12 v36 w

def f10_5 (x0 : Value) (x2 : Value) (x4 : Value) (x7 : Value) (x8 : Value) (x9 : Value) (x11 : Value) (x12 : Value) (x13 : Value) (J12 : Value → Value → World → Prop) (Q : Value → World → Prop) (w : World) : Prop :=
  kix (some (.slice 110)) (some 10) x0 x13 fun v32 =>
  kfld 9 v32 fun v33 =>
  kld v33 w fun v34 =>
  kB v34 fun b37 => kIf b37
  (kint .i64 .add x12 (.int .i64 1) fun v35 =>
  f10_6 x0 x2 x4 x7 x8 x9 x11 v35 x13 J12 Q w)
  (f10_6 x0 x2 x4 x7 x8 x9 x11 x12 x13 J12 Q w)

def f10_13 (x0 : Value) (x2 : Value) (x4 : Value) (x7 : Value) (x8 : Value) (x9 : Value) (x11 : Value) (x12 : Value) (x16 : Value) (J20 : Value → Value → World → Prop) (Q : Value → World → Prop) (w : World) : Prop :=
  kint .i64 .sub x16 (.int .i64 1) fun v71 =>
  J20 x12 v71 w

def f10_12 (x0 : Value) (x2 : Value) (x4 : Value) (x7 : Value) (x8 : Value) (x9 : Value) (x11 : Value) (x12 : Value) (x16 : Value) (J20 : Value → Value → World → Prop) (Q : Value → World → Prop) (w : World) : Prop :=
  kint .i64 .sub x12 (.int .i64 1) fun v70 =>
  f10_13 x0 x2 x4 x7 x8 x9 x11 v70 x16 J20 Q w

def f10_11 (x0 : Value) (x2 : Value) (x4 : Value) (x7 : Value) (x8 : Value) (x9 : Value) (x11 : Value) (x12 : Value) (x16 : Value) (x17 : Value) (J20 : Value → Value → World → Prop) (Q : Value → World → Prop) (w : World) : Prop :=
  kix (some (.slice 110)) (some 10) x0 x16 fun v62 =>
  kfld 9 v62 fun v63 =>
  kld v63 w fun v64 =>
  kB v64 fun b73 => kIf b73
  (kldN 2 x17 w fun v65 =>
  kcall Tryz.prog 65 #[x11, x12, v65] w fun v66 w67 =>
  keq Tryz.prog .neq 28 false true v66 .nilIface w67 fun v68 w69 =>
  kB v68 fun b72 => kIf b72
  (Q (.bool false) w69)
  (f10_12 x0 x2 x4 x7 x8 x9 x11 x12 x16 J20 Q w69))
  (f10_13 x0 x2 x4 x7 x8 x9 x11 x12 x16 J20 Q w)

def f10_10 (x0 : Value) (x2 : Value) (x4 : Value) (x7 : Value) (x8 : Value) (x9 : Value) (x11 : Value) (x12 : Value) (x16 : Value) (J20 : Value → Value → World → Prop) (Q : Value → World → Prop) (w : World) : Prop :=
  kix (some (.slice 110)) (some 10) x0 x16 fun v49 =>
  kldN 10 v49 w fun v50 =>
  kcall Tryz.prog 58 #[v50] w fun v51 w52 =>
  kcall Tryz.prog 14 #[x9, v51] w52 fun v53 w54 =>
  kext v53 0 fun v55 =>
  kext v53 1 fun v56 =>
  knew #[(.int .i64 0), (.int .i64 0)] 37 w54 fun v57 w58 =>
  kst 2 v57 v55 w58 fun w59 =>
  keq Tryz.prog .neq 28 false true v56 .nilIface w59 fun v60 w61 =>
  kB v60 fun b74 => kIf b74
  (Q (.bool false) w61)
  (f10_11 x0 x2 x4 x7 x8 x9 x11 x12 x16 v57 J20 Q w61)

def f10_14 (x2 : Value) (x4 : Value) (x7 : Value) (x8 : Value) (x9 : Value) (x11 : Value) (Q : Value → World → Prop) (w : World) : Prop :=
  kldN 3 x4 w.drew fun v75 =>
  kG (w.drew = w.drew) <|
  kcall Tryz.prog 55 #[x7, x8, v75, x2] w.drew fun v76 w77 =>
  kldN 3 x4 w77 fun v78 =>
  kG (w77 = w77) <|
  kG (kldN 3 x4 w.drew fun v83 =>
  v83 = v78 ∧ w.drew = w.drew) <|
  kcall Tryz.prog 55 #[x9, x11, v78, x2] w77 fun v79 w80 =>
  kcall Tryz.prog 60 #[v76, v79] w80 fun v81 w82 =>
  Q v81 w82

def f10_9 (x12 : Value) (x16 : Value) (x0 : Value) (x2 : Value) (x4 : Value) (x7 : Value) (x8 : Value) (x9 : Value) (x11 : Value) (J20 : Value → Value → World → Prop) (Q : Value → World → Prop) (w : World) : Prop :=
  kint .i64 .geq x16 (.int .i64 0) fun v48 =>
  kB v48 fun b84 => kIf b84
  (f10_10 x0 x2 x4 x7 x8 x9 x11 x12 x16 J20 Q w)
  (f10_14 x2 x4 x7 x8 x9 x11 Q w)

def f10_8 (x0 : Value) (x2 : Value) (x4 : Value) (x7 : Value) (x8 : Value) (x9 : Value) (x11 : Value) (x12 : Value) (Q : Value → World → Prop) (w : World) : Prop :=
  klen x0 fun v45 =>
  kint .i64 .sub v45 (.int .i64 1) fun v47 =>
  kL fun (I : Value → Value → World → Prop) (μ : Value → Value → World → Nat) => I x12 v47 w ∧ ∀ (x12 x16 : Value) (w1 : World), I x12 x16 w1 →
  f10_9 x12 x16 x0 x2 x4 x7 x8 x9 x11 (fun y12 y16 w2 => I y12 y16 w2 ∧ μ y12 y16 w2 < μ x12 x16 w1) Q w1

def f10_7 (x0 : Value) (x2 : Value) (x4 : Value) (x7 : Value) (x8 : Value) (x9 : Value) (x11 : Value) (x12 : Value) (Q : Value → World → Prop) (w : World) : Prop :=
  kint .i64 .add x12 (.int .i64 1) fun v38 =>
  kcall Tryz.prog 64 #[x11, v38] w fun v39 w40 =>
  kext v39 0 fun v41 =>
  kext v39 1 fun v42 =>
  keq Tryz.prog .neq 28 false true v42 .nilIface w40 fun v43 w44 =>
  kB v43 fun b85 => kIf b85
  (Q (.bool false) w44)
  (f10_8 x0 x2 x4 x7 x8 x9 x11 x12 Q w44)

def f10_4 (x12 : Value) (x13 : Value) (x0 : Value) (x2 : Value) (x4 : Value) (x7 : Value) (x8 : Value) (x9 : Value) (x11 : Value) (J12 : Value → Value → World → Prop) (Q : Value → World → Prop) (w : World) : Prop :=
  klen x0 fun v29 =>
  kint .i64 .lss x13 v29 fun v31 =>
  kB v31 fun b86 => kIf b86
  (f10_5 x0 x2 x4 x7 x8 x9 x11 x12 x13 J12 Q w)
  (f10_7 x0 x2 x4 x7 x8 x9 x11 x12 Q w)

def f10_3 (x0 : Value) (x2 : Value) (x4 : Value) (x7 : Value) (x8 : Value) (x9 : Value) (x11 : Value) (Q : Value → World → Prop) (w : World) : Prop :=
  kL fun (I : Value → Value → World → Prop) (μ : Value → Value → World → Nat) => I (.int .i64 0) (.int .i64 0) w ∧ ∀ (x12 x13 : Value) (w1 : World), I x12 x13 w1 →
  f10_4 x12 x13 x0 x2 x4 x7 x8 x9 x11 (fun y12 y13 w2 => I y12 y13 w2 ∧ μ y12 y13 w2 < μ x12 x13 w1) Q w1

def f10_2 (x0 : Value) (x2 : Value) (x4 : Value) (x7 : Value) (x8 : Value) (x9 : Value) (x11 : Value) (x44 : Value) (Q : Value → World → Prop) (w : World) : Prop :=
  kB x44 fun b87 => kIf b87
  (Q (.bool false) w)
  (f10_3 x0 x2 x4 x7 x8 x9 x11 Q w)

def f10_1 (x0 : Value) (x2 : Value) (x4 : Value) (Q : Value → World → Prop) (w : World) : Prop :=
  kcall Tryz.prog 54 #[x0] w fun v9 w10 =>
  kext v9 0 fun v11 =>
  kext v9 1 fun v12 =>
  kcall Tryz.prog 62 #[] w10 fun v13 w14 =>
  kcall Tryz.prog 12 #[v13, (.int .i64 64)] w14 fun v15 w16 =>
  kext v15 0 fun v17 =>
  kext v15 1 fun v18 =>
  kcall Tryz.prog 63 #[] w16 fun v19 w20 =>
  keq Tryz.prog .eql 26 false true v11 (.pointer none) w20 fun v21 w22 =>
  kB v21 fun b23 => kIf (!b23)
  (keq Tryz.prog .eql 26 false true v17 (.pointer none) w22 fun v24 w25 =>
  kB v24 fun b26 => kIf (!b26)
  (keq Tryz.prog .neq 28 false true v18 .nilIface w25 fun v27 w28 =>
  f10_2 x0 x2 x4 v11 v12 v17 v19 v27 Q w28)
  (f10_2 x0 x2 x4 v11 v12 v17 v19 (.bool true) Q w25))
  (f10_2 x0 x2 x4 v11 v12 v17 v19 (.bool true) Q w22)

def f10_0 (x0 : Value) (x2 : Value) (x4 : Value) (Q : Value → World → Prop) (w : World) : Prop :=
  klen x0 fun v6 =>
  kint .i64 .gtr v6 (.int .i64 60) fun v8 =>
  kB v8 fun b88 => kIf b88
  (Q (.bool true) w)
  (f10_1 x0 x2 x4 Q w)

def f10 (x0 : Value) (x1 : Value) (x2 : Value) (Q : Value → World → Prop) (w : World) : Prop :=
  knew (Value.cells x1) 100 w fun v1 w2 =>
  kcall Tryz.prog 53 #[] w2 fun v3 w4 =>
  kun .not (some .bool) v3 fun v5 =>
  kB v5 fun b89 => kIf b89
  (Q (.bool false) w4)
  (f10_0 x0 x2 v1 Q w4)

theorem f10_eq (x0 : Value) (x1 : Value) (x2 : Value) (Q : Value → World → Prop) (w : World) : f10 x0 x1 x2 Q w = fnVC Tryz.prog Tryz.f10 [(12, [12, 13]), (20, [12, 16])] (Tryz.f10.body.get rfl) [x0, x1, x2] w Q := by kernel_rfl
theorem f10_ok {x0 : Value} {x1 : Value} {x2 : Value} {Q : Value → World → Prop} {w : World} (h : f10 x0 x1 x2 Q w) : Meets Tryz.prog 10 #[x0, x1, x2] w Q :=
  sound (c := (Tryz.f10.body.get rfl)) [(12, [12, 13]), (20, [12, 16])] Tryz.func10 rfl rfl (args := [x0, x1, x2]) rfl (Eq.mp (f10_eq x0 x1 x2 Q w) h)

/-! pasodoble/pasodoblelaw11.awake -/
def f53 (Q : Value → World → Prop) (w : World) : Prop :=
  kbld [(.int .u32 0), (.int .u32 0), (.int .u32 0)] [(0, 1, (.int .u32 1)), (2, 1, (.int .u32 1))] fun v1 =>
  knew #[(.int .u32 0), (.int .u32 0), (.int .u32 0)] 100 w fun v2 w3 =>
  kst 3 v2 v1 w3 fun w4 =>
  kcall Tryz.prog 62 #[] w4 fun v5 w6 =>
  kbld [(.int .u32 0), (.int .u32 0), (.int .u32 0)] [(0, 1, (.int .u32 128)), (1, 1, (.int .u32 128)), (2, 1, (.int .u32 2))] fun v7 =>
  kcall Tryz.prog 118 #[v5, v7] w6 fun v8 w9 =>
  kcall Tryz.prog 37 #[v8] w9 fun v10 w11 =>
  kldN 3 v2 w11.drew fun v12 =>
  kG (w11.drew = w11.drew) <|
  kbld [(.int .i64 0), (.int .i64 0), (.int .i64 0), (.int .i64 0), (.int .i64 0), (.int .i64 0)] [(5, 1, (.int .i64 8))] fun v13 =>
  kbldS [(.int .i64 0), (.int .i64 0), (.int .i64 0), (.int .i64 0), (.int .i64 0), (.int .i64 0)] 1 [(0, 6, v13)] 49 w11.drew fun v14 w15 =>
  kG (kldN 3 v2 w15 fun v52 =>
  v52 = v12 ∧ w15 = w15) <|
  kcall Tryz.prog 119 #[v12, (.int .i64 9), v14] w15 fun v16 w17 =>
  kB v16 fun b18 => kIf b18
  (kldN 3 v2 w17 fun v19 =>
  kG (w17 = w17) <|
  kbld [(.int .i64 0), (.int .i64 0), (.int .i64 0), (.int .i64 0), (.int .i64 0), (.int .i64 0)] [(5, 1, (.int .i64 7))] fun v20 =>
  kbldS [(.int .i64 0), (.int .i64 0), (.int .i64 0), (.int .i64 0), (.int .i64 0), (.int .i64 0)] 1 [(0, 6, v20)] 49 w17 fun v21 w22 =>
  kG (kldN 3 v2 w22 fun v51 =>
  v51 = v19 ∧ w22 = w22) <|
  kcall Tryz.prog 119 #[v19, (.int .i64 9), v21] w22 fun v23 w24 =>
  kun .not (some .bool) v23 fun v25 =>
  kB v25 fun b26 => kIf b26
  (kcall Tryz.prog 62 #[] w24 fun v27 w28 =>
  kldN 3 v2 w28 fun v29 =>
  kG (w28 = w28) <|
  kG (kldN 3 v2 w24 fun v50 =>
  v50 = v29 ∧ w24 = w24) <|
  kcall Tryz.prog 118 #[v27, v29] w28 fun v30 w31 =>
  keq Tryz.prog .eql 28 false true v30 .nilIface w31 fun v32 w33 =>
  kG (w33 = w31) <|
  kB v32 fun b34 => kIf b34
  (klen v10 fun v35 =>
  kint .i64 .eql v35 (.int .i64 4) fun v37 =>
  kB v37 fun b38 => kIf b38
  (kix (some (.slice 197)) (some 2) v10 (.int .i64 0) fun v39 =>
  kldN 2 v39 w33 fun v40 =>
  kG (w33 = w33) <|
  kbld [(.string ⟨#[]⟩), (.int .i64 0)] [(0, 1, (.string ⟨#[119, 105, 116, 104]⟩)), (1, 1, (.int .i64 1))] fun v41 =>
  keq Tryz.prog .eql 197 false false v40 v41 w33 fun v42 w43 =>
  kG (w43 = w33) <|
  kB v42 fun b44 => kIf b44
  (kix (some (.slice 197)) (some 2) v10 (.int .i64 3) fun v45 =>
  kldN 2 v45 w43 fun v46 =>
  kG (w43 = w43) <|
  kbld [(.string ⟨#[]⟩), (.int .i64 0)] [(0, 1, (.string ⟨#[99, 104, 97, 110, 103, 101, 100]⟩)), (1, 1, (.int .i64 7))] fun v47 =>
  keq Tryz.prog .eql 197 false false v46 v47 w43 fun v48 w49 =>
  kG (w49 = w43) <|
  Q v48 w49)
  (Q (.bool false) w43))
  (Q (.bool false) w33))
  (Q (.bool false) w33))
  (Q (.bool false) w24))
  (Q (.bool false) w17)

theorem f53_eq (Q : Value → World → Prop) (w : World) : f53 Q w = fnVC Tryz.prog Tryz.f53 [] (Tryz.f53.body.get rfl) [] w Q := by kernel_rfl
theorem f53_ok {Q : Value → World → Prop} {w : World} (h : f53 Q w) : Meets Tryz.prog 53 #[] w Q :=
  sound (c := (Tryz.f53.body.get rfl)) [] Tryz.func53 rfl rfl (args := []) rfl (Eq.mp (f53_eq Q w) h)

/-! pasodoble/pasodoblelaw11.laid -/
def f54_6 (x0 : Value) (x4 : Value) (x6 : Value) (x7 : Value) (J6 : Value → World → Prop) (Q : Value → World → Prop) (w : World) : Prop :=
  kint .i64 .add x7 (.int .i64 1) fun v38 =>
  J6 v38 w

def f54_5 (x0 : Value) (x4 : Value) (x6 : Value) (x7 : Value) (x8 : Value) (J6 : Value → World → Prop) (Q : Value → World → Prop) (w : World) : Prop :=
  kix (some (.slice 110)) (some 10) x0 x7 fun v32 =>
  kfld 9 v32 fun v33 =>
  kld v33 w fun v34 =>
  kB v34 fun b39 => kIf b39
  (kldN 2 x8 w fun v35 =>
  kcall Tryz.prog 120 #[x6, v35] w fun v36 w37 =>
  f54_6 x0 x4 x6 x7 J6 Q w37)
  (f54_6 x0 x4 x6 x7 J6 Q w)

def f54_4 (x0 : Value) (x4 : Value) (x6 : Value) (x7 : Value) (J6 : Value → World → Prop) (Q : Value → World → Prop) (w : World) : Prop :=
  kix (some (.slice 110)) (some 10) x0 x7 fun v19 =>
  kldN 10 v19 w fun v20 =>
  kcall Tryz.prog 58 #[v20] w fun v21 w22 =>
  kcall Tryz.prog 14 #[x4, v21] w22 fun v23 w24 =>
  kext v23 0 fun v25 =>
  kext v23 1 fun v26 =>
  knew #[(.int .i64 0), (.int .i64 0)] 37 w24 fun v27 w28 =>
  kst 2 v27 v25 w28 fun w29 =>
  keq Tryz.prog .neq 28 false true v26 .nilIface w29 fun v30 w31 =>
  kB v30 fun b40 => kIf b40
  (Q (.tuple #[(.pointer none), (.pointer none)]) w31)
  (f54_5 x0 x4 x6 x7 v27 J6 Q w31)

def f54_7 (x4 : Value) (x6 : Value) (Q : Value → World → Prop) (w : World) : Prop :=
  Q (.tuple #[x4, x6]) w

def f54_3 (x0 : Value) (x4 : Value) (x6 : Value) (x7 : Value) (x29 : Value) (J6 : Value → World → Prop) (Q : Value → World → Prop) (w : World) : Prop :=
  kB x29 fun b41 => kIf b41
  (f54_4 x0 x4 x6 x7 J6 Q w)
  (f54_7 x4 x6 Q w)

def f54_2 (x7 : Value) (x0 : Value) (x4 : Value) (x6 : Value) (J6 : Value → World → Prop) (Q : Value → World → Prop) (w : World) : Prop :=
  klen x0 fun v14 =>
  kint .i64 .lss x7 v14 fun v16 =>
  kB v16 fun b17 => kIf b17
  (kint .i64 .lss x7 (.int .i64 60) fun v18 =>
  f54_3 x0 x4 x6 x7 v18 J6 Q w)
  (f54_3 x0 x4 x6 x7 (.bool false) J6 Q w)

def f54_1 (x0 : Value) (x4 : Value) (x6 : Value) (Q : Value → World → Prop) (w : World) : Prop :=
  kL fun (I : Value → World → Prop) (μ : Value → World → Nat) => I (.int .i64 0) w ∧ ∀ (x7 : Value) (w1 : World), I x7 w1 →
  f54_2 x7 x0 x4 x6 (fun y7 w2 => I y7 w2 ∧ μ y7 w2 < μ x7 w1) Q w1

def f54_0 (x0 : Value) (x4 : Value) (x6 : Value) (x21 : Value) (Q : Value → World → Prop) (w : World) : Prop :=
  kB x21 fun b42 => kIf b42
  (Q (.tuple #[(.pointer none), (.pointer none)]) w)
  (f54_1 x0 x4 x6 Q w)

def f54 (x0 : Value) (Q : Value → World → Prop) (w : World) : Prop :=
  kcall Tryz.prog 62 #[] w fun v1 w2 =>
  kcall Tryz.prog 12 #[v1, (.int .i64 64)] w2 fun v3 w4 =>
  kext v3 0 fun v5 =>
  kext v3 1 fun v6 =>
  kcall Tryz.prog 63 #[] w4 fun v7 w8 =>
  keq Tryz.prog .eql 26 false true v5 (.pointer none) w8 fun v9 w10 =>
  kB v9 fun b11 => kIf (!b11)
  (keq Tryz.prog .neq 28 false true v6 .nilIface w10 fun v12 w13 =>
  f54_0 x0 v5 v7 v12 Q w13)
  (f54_0 x0 v5 v7 (.bool true) Q w10)

theorem f54_eq (x0 : Value) (Q : Value → World → Prop) (w : World) : f54 x0 Q w = fnVC Tryz.prog Tryz.f54 [(6, [7])] (Tryz.f54.body.get rfl) [x0] w Q := by kernel_rfl
theorem f54_ok {x0 : Value} {Q : Value → World → Prop} {w : World} (h : f54 x0 Q w) : Meets Tryz.prog 54 #[x0] w Q :=
  sound (c := (Tryz.f54.body.get rfl)) [(6, [7])] Tryz.func54 rfl rfl (args := [x0]) rfl (Eq.mp (f54_eq x0 Q w) h)

/-! pasodoble/pasodoblelaw11.eight -/
def f62_2 (x0 : Value) (x1 : Value) (x2 : Value) (J3 : Value → World → Prop) (Q : Value → World → Prop) (w : World) : Prop :=
  kint .i64 .add x2 (.int .i64 1) fun v20 =>
  J3 v20 w

def f62_1 (x0 : Value) (x1 : Value) (x2 : Value) (J3 : Value → World → Prop) (Q : Value → World → Prop) (w : World) : Prop :=
  kfld 0 x1 fun v8 =>
  kld v8 w.drew fun v9 =>
  kG (w.drew = w.drew) <|
  kint .i64 .add x2 (.int .i64 1) fun v10 =>
  ksl (some .string) none (.string ⟨#[97, 98, 99, 100, 101, 102, 103, 104]⟩) (some x2) (some v10) fun v11 =>
  kint .i64 .lss x2 (.int .i64 7) fun v12 =>
  kbld [(.string ⟨#[]⟩), (.int .i64 0), (.bool false), (.int .i64 0), (.int .i64 0), (.int .i64 0), (.int .i64 0)] [(0, 1, v11), (1, 1, (.int .i64 1)), (2, 1, v12)] fun v13 =>
  kbldS [(.string ⟨#[]⟩), (.int .i64 0), (.bool false), (.int .i64 0), (.int .i64 0), (.int .i64 0), (.int .i64 0)] 1 [(0, 7, v13)] 132 w.drew fun v14 w15 =>
  kG (kld v8 w15 fun v21 =>
  v21 = v9 ∧ w15 = w15) <|
  ksem Tryz.prog (Builtin.append_ #[31, 31] 0 #[v9, v14]) w15 fun v16 w17 =>
  kfld 0 x1 fun v18 =>
  kst 1 v18 v16 w17 fun w19 =>
  f62_2 x0 x1 x2 J3 Q w19

def f62_3 (x0 : Value) (x1 : Value) (Q : Value → World → Prop) (w : World) : Prop :=
  kldN 2 x1 w fun v22 =>
  kst 2 x0 v22 w fun w23 =>
  kldN 2 x0 w23 fun v24 =>
  Q v24 w23

def f62_0 (x2 : Value) (x0 : Value) (x1 : Value) (J3 : Value → World → Prop) (Q : Value → World → Prop) (w : World) : Prop :=
  kint .i64 .lss x2 (.int .i64 8) fun v7 =>
  kB v7 fun b25 => kIf b25
  (f62_1 x0 x1 x2 J3 Q w)
  (f62_3 x0 x1 Q w)

def f62 (Q : Value → World → Prop) (w : World) : Prop :=
  knew #[(.slice none 0 0), (.slice none 0 0)] 34 w fun v1 w2 =>
  kbld [(.slice none 0 0), (.slice none 0 0)] [] fun v3 =>
  knew #[(.slice none 0 0), (.slice none 0 0)] 34 w2 fun v4 w5 =>
  kst 2 v4 v3 w5 fun w6 =>
  kL fun (I : Value → World → Prop) (μ : Value → World → Nat) => I (.int .i64 0) w6 ∧ ∀ (x2 : Value) (w1 : World), I x2 w1 →
  f62_0 x2 v1 v4 (fun y2 w2 => I y2 w2 ∧ μ y2 w2 < μ x2 w1) Q w1

theorem f62_eq (Q : Value → World → Prop) (w : World) : f62 Q w = fnVC Tryz.prog Tryz.f62 [(3, [2])] (Tryz.f62.body.get rfl) [] w Q := by kernel_rfl
theorem f62_ok {Q : Value → World → Prop} {w : World} (h : f62 Q w) : Meets Tryz.prog 62 #[] w Q :=
  sound (c := (Tryz.f62.body.get rfl)) [(3, [2])] Tryz.func62 rfl rfl (args := []) rfl (Eq.mp (f62_eq Q w) h)

/-! (pasodoble/pasodoblelaw11.Being).parts -/
def f58_2 (x1 : Value) (x3 : Value) (x4 : Value) (J3 : Value → Value → World → Prop) (Q : Value → World → Prop) (w : World) : Prop :=
  kint .i64 .add x4 (.int .i64 1) fun v19 =>
  J3 x3 v19 w

def f58_1 (x1 : Value) (x3 : Value) (x4 : Value) (J3 : Value → Value → World → Prop) (Q : Value → World → Prop) (w : World) : Prop :=
  kfld 0 x1 fun v6 =>
  kld v6 w fun v7 =>
  kint .u32 .shr v7 x4 fun v8 =>
  kint .u32 .rem v8 (.int .u32 2) fun v9 =>
  kint .u32 .eql v9 (.int .u32 1) fun v10 =>
  kB v10 fun b20 => kIf b20
  (kfld 1 x1 fun v11 =>
  kix (some (.array 8 3)) (some 1) v11 x4 fun v12 =>
  kld v12 w fun v13 =>
  kbld [(.int .i64 0), (.int .i64 0), (.int .i64 0), (.int .i64 0), (.int .i64 0), (.int .i64 0)] [(0, 1, x4), (5, 1, v13)] fun v14 =>
  kbldS [(.int .i64 0), (.int .i64 0), (.int .i64 0), (.int .i64 0), (.int .i64 0), (.int .i64 0)] 1 [(0, 6, v14)] 49 w fun v15 w16 =>
  ksem Tryz.prog (Builtin.append_ #[40, 40] 0 #[x3, v15]) w16 fun v17 w18 =>
  f58_2 x1 v17 x4 J3 Q w18)
  (f58_2 x1 x3 x4 J3 Q w)

def f58_3 (x3 : Value) (Q : Value → World → Prop) (w : World) : Prop :=
  Q x3 w

def f58_0 (x3 : Value) (x4 : Value) (x1 : Value) (J3 : Value → Value → World → Prop) (Q : Value → World → Prop) (w : World) : Prop :=
  kint .i64 .lss x4 (.int .i64 8) fun v5 =>
  kB v5 fun b21 => kIf b21
  (f58_1 x1 x3 x4 J3 Q w)
  (f58_3 x3 Q w)

def f58 (x0 : Value) (Q : Value → World → Prop) (w : World) : Prop :=
  knew (Value.cells x0) 110 w fun v1 w2 =>
  kbldS [(.int .i64 0), (.int .i64 0), (.int .i64 0), (.int .i64 0), (.int .i64 0), (.int .i64 0)] 0 [] 49 w2 fun v3 w4 =>
  kL fun (I : Value → Value → World → Prop) (μ : Value → Value → World → Nat) => I v3 (.int .i64 0) w4 ∧ ∀ (x3 x4 : Value) (w1 : World), I x3 x4 w1 →
  f58_0 x3 x4 v1 (fun y3 y4 w2 => I y3 y4 w2 ∧ μ y3 y4 w2 < μ x3 x4 w1) Q w1

theorem f58_eq (x0 : Value) (Q : Value → World → Prop) (w : World) : f58 x0 Q w = fnVC Tryz.prog Tryz.f58 [(3, [3, 4])] (Tryz.f58.body.get rfl) [x0] w Q := by kernel_rfl
theorem f58_ok {x0 : Value} {Q : Value → World → Prop} {w : World} (h : f58 x0 Q w) : Meets Tryz.prog 58 #[x0] w Q :=
  sound (c := (Tryz.f58.body.get rfl)) [(3, [3, 4])] Tryz.func58 rfl rfl (args := [x0]) rfl (Eq.mp (f58_eq x0 Q w) h)

/-! pasodoble/pasodobleref11.Means -/
def f57_3 (x1 : Value) (x2 : Value) (x3 : Value) (x7 : Value) (x8 : Value) (x9 : Value) (J5 : Value → Value → Value → World → Prop) (Q : Value → World → Prop) (w : World) : Prop :=
  kint .i64 .add x9 (.int .i64 1) fun v14 =>
  J5 x7 x8 v14 w

def f57_4 (x1 : Value) (x2 : Value) (x3 : Value) (x7 : Value) (x8 : Value) (x9 : Value) (x10 : Value) (J5 : Value → Value → Value → World → Prop) (Q : Value → World → Prop) (w : World) : Prop :=
  kint .u32 .shl (.int .u32 1) x10 fun v15 =>
  kint .u32 .or x7 v15 fun v16 =>
  kix (some (.slice 49)) (some 6) x2 x9 fun v17 =>
  kfld 5 v17 fun v18 =>
  kld v18 w fun v19 =>
  kint .i64 .sub x1 (.int .i64 1) fun v20 =>
  kint .i64 .geq v19 v20 fun v21 =>
  kB v21 fun b24 => kIf b24
  (kint .u32 .shl (.int .u32 1) x10 fun v22 =>
  kint .u32 .or x8 v22 fun v23 =>
  f57_3 x1 x2 x3 v16 v23 x9 J5 Q w)
  (f57_3 x1 x2 x3 v16 x8 x9 J5 Q w)

def f57_2 (x1 : Value) (x2 : Value) (x3 : Value) (x7 : Value) (x8 : Value) (x9 : Value) (x10 : Value) (x30 : Value) (J5 : Value → Value → Value → World → Prop) (Q : Value → World → Prop) (w : World) : Prop :=
  kB x30 fun b25 => kIf b25
  (f57_3 x1 x2 x3 x7 x8 x9 J5 Q w)
  (f57_4 x1 x2 x3 x7 x8 x9 x10 J5 Q w)

def f57_1 (x1 : Value) (x2 : Value) (x3 : Value) (x7 : Value) (x8 : Value) (x9 : Value) (J5 : Value → Value → Value → World → Prop) (Q : Value → World → Prop) (w : World) : Prop :=
  kix (some (.slice 49)) (some 6) x2 x9 fun v8 =>
  kfld 0 v8 fun v9 =>
  kld v9 w fun v10 =>
  kint .i64 .lss v10 (.int .i64 0) fun v11 =>
  kB v11 fun b12 => kIf (!b12)
  (kint .i64 .gtr v10 (.int .i64 31) fun v13 =>
  f57_2 x1 x2 x3 x7 x8 x9 v10 v13 J5 Q w)
  (f57_2 x1 x2 x3 x7 x8 x9 v10 (.bool true) J5 Q w)

def f57_9 (x3 : Value) (x7 : Value) (x8 : Value) (x11 : Value) (J13 : Value → World → Prop) (Q : Value → World → Prop) (w : World) : Prop :=
  kint .i64 .add x11 (.int .i64 1) fun v52 =>
  J13 v52 w

def f57_8 (x3 : Value) (x7 : Value) (x8 : Value) (x11 : Value) (x83 : Value) (J13 : Value → World → Prop) (Q : Value → World → Prop) (w : World) : Prop :=
  kB x83 fun b53 => kIf b53
  (Q (.bool false) w)
  (f57_9 x3 x7 x8 x11 J13 Q w)

def f57_7 (x3 : Value) (x7 : Value) (x8 : Value) (x11 : Value) (J13 : Value → World → Prop) (Q : Value → World → Prop) (w : World) : Prop :=
  kfld 0 x3 fun v27 =>
  kld v27 w fun v28 =>
  kcall Tryz.prog 124 #[v28, x11] w fun v29 w30 =>
  kB v29 fun b31 => kIf b31
  (kcall Tryz.prog 124 #[x7, x11] w30 fun v32 w33 =>
  kun .not (some .bool) v32 fun v34 =>
  kB v34 fun b35 => kIf (!b35)
  (kfld 1 x3 fun v36 =>
  kld v36 w33 fun v37 =>
  kcall Tryz.prog 124 #[v37, x11] w33 fun v38 w39 =>
  kB v38 fun b40 => kIf b40
  (kcall Tryz.prog 124 #[x7, x11] w39 fun v41 w42 =>
  kB v41 fun b43 => kIf (!b43)
  (kfld 2 x3 fun v44 =>
  kld v44 w42 fun v45 =>
  kcall Tryz.prog 124 #[v45, x11] w42 fun v46 w47 =>
  kB v46 fun b48 => kIf b48
  (kcall Tryz.prog 124 #[x8, x11] w47 fun v49 w50 =>
  kun .not (some .bool) v49 fun v51 =>
  f57_8 x3 x7 x8 x11 v51 J13 Q w50)
  (f57_8 x3 x7 x8 x11 (.bool false) J13 Q w47))
  (f57_8 x3 x7 x8 x11 (.bool true) J13 Q w42))
  (kfld 2 x3 fun v54 =>
  kld v54 w39 fun v55 =>
  kcall Tryz.prog 124 #[v55, x11] w39 fun v56 w57 =>
  kB v56 fun b58 => kIf b58
  (kcall Tryz.prog 124 #[x8, x11] w57 fun v59 w60 =>
  kun .not (some .bool) v59 fun v61 =>
  f57_8 x3 x7 x8 x11 v61 J13 Q w60)
  (f57_8 x3 x7 x8 x11 (.bool false) J13 Q w57)))
  (f57_8 x3 x7 x8 x11 (.bool true) J13 Q w33))
  (kfld 1 x3 fun v62 =>
  kld v62 w30 fun v63 =>
  kcall Tryz.prog 124 #[v63, x11] w30 fun v64 w65 =>
  kB v64 fun b66 => kIf b66
  (kcall Tryz.prog 124 #[x7, x11] w65 fun v67 w68 =>
  kB v67 fun b69 => kIf (!b69)
  (kfld 2 x3 fun v70 =>
  kld v70 w68 fun v71 =>
  kcall Tryz.prog 124 #[v71, x11] w68 fun v72 w73 =>
  kB v72 fun b74 => kIf b74
  (kcall Tryz.prog 124 #[x8, x11] w73 fun v75 w76 =>
  kun .not (some .bool) v75 fun v77 =>
  f57_8 x3 x7 x8 x11 v77 J13 Q w76)
  (f57_8 x3 x7 x8 x11 (.bool false) J13 Q w73))
  (f57_8 x3 x7 x8 x11 (.bool true) J13 Q w68))
  (kfld 2 x3 fun v78 =>
  kld v78 w65 fun v79 =>
  kcall Tryz.prog 124 #[v79, x11] w65 fun v80 w81 =>
  kB v80 fun b82 => kIf b82
  (kcall Tryz.prog 124 #[x8, x11] w81 fun v83 w84 =>
  kun .not (some .bool) v83 fun v85 =>
  f57_8 x3 x7 x8 x11 v85 J13 Q w84)
  (f57_8 x3 x7 x8 x11 (.bool false) J13 Q w81)))

def f57_10 (Q : Value → World → Prop) (w : World) : Prop :=
  Q (.bool true) w

def f57_6 (x11 : Value) (x3 : Value) (x7 : Value) (x8 : Value) (J13 : Value → World → Prop) (Q : Value → World → Prop) (w : World) : Prop :=
  kint .i64 .lss x11 (.int .i64 32) fun v26 =>
  kB v26 fun b86 => kIf b86
  (f57_7 x3 x7 x8 x11 J13 Q w)
  (f57_10 Q w)

def f57_5 (x3 : Value) (x7 : Value) (x8 : Value) (Q : Value → World → Prop) (w : World) : Prop :=
  kL fun (I : Value → World → Prop) (μ : Value → World → Nat) => I (.int .i64 0) w ∧ ∀ (x11 : Value) (w1 : World), I x11 w1 →
  f57_6 x11 x3 x7 x8 (fun y11 w2 => I y11 w2 ∧ μ y11 w2 < μ x11 w1) Q w1

def f57_0 (x7 : Value) (x8 : Value) (x9 : Value) (x1 : Value) (x2 : Value) (x3 : Value) (J5 : Value → Value → Value → World → Prop) (Q : Value → World → Prop) (w : World) : Prop :=
  klen x2 fun v5 =>
  kint .i64 .lss x9 v5 fun v7 =>
  kB v7 fun b87 => kIf b87
  (f57_1 x1 x2 x3 x7 x8 x9 J5 Q w)
  (f57_5 x3 x7 x8 Q w)

def f57 (x0 : Value) (x1 : Value) (x2 : Value) (Q : Value → World → Prop) (w : World) : Prop :=
  knew (Value.cells x0) 100 w fun v1 w2 =>
  kmm .i64 true x1 (.int .i64 (-4611686018427387904)) fun v3 =>
  kL fun (I : Value → Value → Value → World → Prop) (μ : Value → Value → Value → World → Nat) => I (.int .u32 0) (.int .u32 0) (.int .i64 0) w2 ∧ ∀ (x7 x8 x9 : Value) (w1 : World), I x7 x8 x9 w1 →
  f57_0 x7 x8 x9 v3 x2 v1 (fun y7 y8 y9 w2 => I y7 y8 y9 w2 ∧ μ y7 y8 y9 w2 < μ x7 x8 x9 w1) Q w1

/-! pasodoble/pasodobleref04.Same -/
def f60_3 (x0 : Value) (x1 : Value) (x5 : Value) (J4 : Value → World → Prop) (Q : Value → World → Prop) (w : World) : Prop :=
  kint .i64 .add x5 (.int .i64 1) fun v14 =>
  J4 v14 w

def f60_2 (x0 : Value) (x1 : Value) (x5 : Value) (J4 : Value → World → Prop) (Q : Value → World → Prop) (w : World) : Prop :=
  kix (some (.slice 3)) (some 1) x0 x5 fun v9 =>
  kld v9 w.drew fun v10 =>
  kG (w.drew = w.drew) <|
  kix (some (.slice 3)) (some 1) x1 x5 fun v11 =>
  kld v11 w.drew fun v12 =>
  kG (w.drew = w.drew) <|
  kint .i64 .neq v10 v12 fun v13 =>
  kB v13 fun b15 => kIf b15
  (Q (.bool false) w.drew)
  (f60_3 x0 x1 x5 J4 Q w.drew)

def f60_4 (Q : Value → World → Prop) (w : World) : Prop :=
  Q (.bool true) w

def f60_1 (x5 : Value) (x0 : Value) (x1 : Value) (J4 : Value → World → Prop) (Q : Value → World → Prop) (w : World) : Prop :=
  klen x0 fun v6 =>
  kint .i64 .lss x5 v6 fun v8 =>
  kB v8 fun b16 => kIf b16
  (f60_2 x0 x1 x5 J4 Q w)
  (f60_4 Q w)

def f60_0 (x0 : Value) (x1 : Value) (Q : Value → World → Prop) (w : World) : Prop :=
  kL fun (I : Value → World → Prop) (μ : Value → World → Nat) => I (.int .i64 0) w ∧ ∀ (x5 : Value) (w1 : World), I x5 w1 →
  f60_1 x5 x0 x1 (fun y5 w2 => I y5 w2 ∧ μ y5 w2 < μ x5 w1) Q w1

def f60 (x0 : Value) (x1 : Value) (Q : Value → World → Prop) (w : World) : Prop :=
  klen x0 fun v1 =>
  klen x1 fun v3 =>
  kint .i64 .neq v1 v3 fun v5 =>
  kB v5 fun b17 => kIf b17
  (Q (.bool false) w)
  (f60_0 x0 x1 Q w)

theorem f60_eq (x0 : Value) (x1 : Value) (Q : Value → World → Prop) (w : World) : f60 x0 x1 Q w = fnVC Tryz.prog Tryz.f60 [(4, [5])] (Tryz.f60.body.get rfl) [x0, x1] w Q := by kernel_rfl
theorem f60_ok {x0 : Value} {x1 : Value} {Q : Value → World → Prop} {w : World} (h : f60 x0 x1 Q w) : Meets Tryz.prog 60 #[x0, x1] w Q :=
  sound (c := (Tryz.f60.body.get rfl)) [(4, [5])] Tryz.func60 rfl rfl (args := [x0, x1]) rfl (Eq.mp (f60_eq x0 x1 Q w) h)

end Go.Proofs.YtlkpadfkmdgjcaaGreatDoor
end
section
set_option linter.unusedSimpArgs false
set_option linter.unusedVariables false
namespace Go.Proofs.YtlkpadfkmdgjcaaGreatDoor
open Go Go.Ev
set_option linter.unusedVariables false
set_option linter.unusedSimpArgs false
set_option maxRecDepth 100000
attribute [local irreducible] kO kB kStr kInt kN kG kIf kfld kld kldN kst knew kmap kbld kbldS kext kcnv klenStr klen kcap kprt kprtN kbool kint kstr keq kun ksl kix kiv kta kmk kmm ksem ksemU kextf kcallV kcallM kcall kL

theorem smallS_spec {n : Nat} (hn : n < 100) (w : World) : Meets Tryz.prog 239 #[.int .i64 n] w fun v w' => (∃ s, v = .string s) ∧ w' = w := by
  refine f239_ok ?_
  unfold f239
  rw [kint_lss, kB_bool]
  refine kIf_dec (fun h => ?_) (fun h => ?_)
  · rw [kint_add, wrap_i64 (by omega) (by omega), ksl_string rfl rfl]
    have hsz : (⟨#[48, 49, 50, 51, 52, 53, 54, 55, 56, 57, 97, 98, 99, 100, 101, 102, 103, 104, 105, 106, 107, 108, 109, 110, 111, 112, 113, 114, 115, 116, 117, 118, 119, 120, 121, 122]⟩ : ByteArray).size = 36 := rfl
    refine kG_of (by simp only [loV_int, hiV_int, hsz]; omega) ?_
    exact ⟨⟨_, rfl⟩, rfl⟩
  · unfold f239_0
    rw [kint_mul, wrap_i64 (by omega) (by omega), kint_mul, wrap_i64 (by omega) (by omega), kint_add, wrap_i64 (by omega) (by omega), ksl_string rfl rfl]
    refine kG_of ?_ ?_
    · simp only [loV_int, hiV_int]
      refine ⟨by omega, by omega, ?_⟩
      show (n : Int) * 2 + 2 ≤ ((200 : Nat) : Int)
      omega
    exact ⟨⟨_, rfl⟩, rfl⟩
theorem itoaS_spec {n : Nat} (hn : n < 100) (w : World) : Meets Tryz.prog 170 #[.int .i64 n] w fun v w' => (∃ s, v = .string s) ∧ w' = w := by
  have h2 : Meets Tryz.prog 229 #[.int .i64 n, .int .i64 10] w fun v w' => (∃ s, v = .string s) ∧ w' = w := by
    refine f229_ok ?_
    unfold f229
    rw [kint_eql, kB_bool]
    refine kIf_dec (fun _ => ?_) (fun h => absurd rfl h)
    rw [kint_leq, kB_bool]
    refine kIf_dec (fun _ => ?_) (fun h => absurd (by omega) h)
    rw [kint_lss]
    unfold f229_0
    rw [kB_bool]
    refine kIf_dec (fun _ => ?_) (fun h => absurd (by omega) h)
    refine kcall_of (smallS_spec hn w) ?_
    rintro v w' h
    exact h
  have h3 : Meets Tryz.prog 202 #[.int .i64 n] w fun v w' => (∃ s, v = .string s) ∧ w' = w := by
    refine f202_ok ?_
    unfold f202
    refine kcall_of h2 ?_
    rintro v w' h
    exact h
  refine f170_ok ?_
  unfold f170
  refine kcall_of h3 ?_
  rintro v w' h
  exact h
theorem named_spec {s : ByteArray} (h : NameOk s) (f : Value) (kd : Value) {n : Nat} (hn : n < 100) (w : World) : Meets Tryz.prog 169 #[f, .string s, .bool false, kd, .int .i64 n] w fun v w' => v = .tuple #[] ∧ Same w w' := by
  refine f169_ok ?_
  unfold f169
  refine kcall_of (itoaS_spec hn w) ?_
  rintro v w2 ⟨⟨s2, rfl⟩, rfl⟩
  refine kcall_of (isName_spec h _) ?_
  rintro v w4 ⟨rfl, h4⟩
  refine not_at ?_
  refine kB_at ?_
  refine kIf_F rfl ?_
  refine kB_at ?_
  refine kIf_F rfl ?_
  exact ⟨rfl, h4⟩
theorem isClean_spec {nm : ByteArray} {rb : Bool} {d : Nat} (h1 : 1 ≤ d) (h4 : d ≤ 4) (w : World) : Meets Tryz.prog 171 #[.agg #[.string nm, .int .i64 d, .bool rb, .int .i64 0, .int .i64 0, .int .i64 0, .int .i64 0]] w fun v w' => v = .bool true ∧ Same w w' := by
  refine f171_ok ?_
  unfold f171
  refine knew_of fun w2 hm2 hs2 hb2 => ?_
  have hb2 : blk w2 w.heap.size = some (.cells #[.string nm, .int .i64 d, .bool rb, .int .i64 0, .int .i64 0, .int .i64 0, .int .i64 0] 132) := hb2
  repeat (first | refine kN_at ?_ | refine kB_at ?_ | refine kfld_of ?_ | refine kext_at rfl ?_ | refine kld_at hb2 rfl ?_ | refine kldN_at hb2 rfl (by omega) ?_ | refine kG_of (by first | exact rfl | omega) ?_ | refine klen_at ?_ | refine eql_at ?_ | refine neq_at ?_ | refine lss_at ?_ | refine leq_at ?_ | refine gtr_at ?_ | refine geq_at ?_ | refine add_at (by omega) (by omega) ?_ | refine sub_at (by omega) (by omega) ?_ | refine not_at ?_ | refine kO_at ?_ | refine kprt_at rfl ?_ | refine kprtN_at rfl ?_ | refine kcap_at ?_ | refine klenStr_at ?_ | refine kN_iat ?_ | refine kN_fat ?_ | refine kIf_T (by first | exact rfl | exact decT (by omega) | exact notT (decF (by omega))) ?_ | refine kIf_F (by first | exact rfl | exact decF (by omega) | exact notF (decT (by omega))) ?_)
  refine ksl_arr_lo (n := d) (by omega) ?_
  have hsl : SlIs w2 (some ⟨w.heap.size, if 4 = d then 0 + 3 else 0 + 3 + d * 1, none⟩) (List.replicate (4 - d) (0 : Int)).length 1 ((List.replicate (4 - d) (0 : Int)).map (Value.int .i64)) := by
    refine ⟨by simp, ?_⟩
    by_cases h : 4 = d
    · left; simp; omega
    · refine .inr ⟨_, _, _, _, _, rfl, hb2, ?_⟩
      rw [if_neg h]
      have : d = 1 ∨ d = 2 ∨ d = 3 := by omega
      rcases this with rfl | rfl | rfl <;> rfl
  have hrl : (List.replicate (4 - d) (0 : Int)).length = 4 - d := by simp
  refine klen_at ?_
  refine kL1_of (4 - d) (fun j x wr => x = .int .i64 j ∧ wr = w2) ⟨lI1_0 ⟨rfl, rfl⟩, fun x wr hx => ?_⟩
  obtain ⟨j, hj, ⟨rfl, rfl⟩, hJ⟩ := lI1_step hx
  unfold f171_0
  refine lss_at ?_
  refine kB_at ?_
  refine kIf_dec (fun hlt => ?_) (fun hge => ?_)
  · have hlt : j < 4 - d := by omega
    unfold f171_1
    refine kixld_of (F := Value.int .i64) (l := List.replicate (4 - d) (0 : Int)) hsl (by omega) rfl ?_ |> fun h => by rw [hrl] at h; exact h
    rw [List.getElem_replicate]
    refine neq_at ?_
    rw [decF (by omega)]
    refine kB_at ?_
    refine kIf_F rfl ?_
    unfold f171_2
    repeat (first | refine kN_at ?_ | refine kB_at ?_ | refine kfld_of ?_ | refine kext_at rfl ?_ | refine kG_of (by first | exact rfl | omega) ?_ | refine klen_at ?_ | refine eql_at ?_ | refine neq_at ?_ | refine lss_at ?_ | refine leq_at ?_ | refine gtr_at ?_ | refine geq_at ?_ | refine add_at (by omega) (by omega) ?_ | refine sub_at (by omega) (by omega) ?_ | refine not_at ?_ | refine kO_at ?_ | refine kprt_at rfl ?_ | refine kprtN_at rfl ?_ | refine kcap_at ?_ | refine klenStr_at ?_ | refine kN_iat ?_ | refine kN_fat ?_ | refine kIf_T (by first | exact rfl | exact decT (by omega) | exact notT (decF (by omega))) ?_ | refine kIf_F (by first | exact rfl | exact decF (by omega) | exact notF (decT (by omega))) ?_)
    rw [cast_succ]
    exact hJ _ _ hlt ⟨rfl, rfl⟩
  · exact ⟨rfl, hm2⟩
theorem component_spec {w : World} {a : Option Addr} {L : List Comp} {cp : Nat} {ra : Option Addr} {rn rc : Nat} (hs : SlIs w a L.length 7 (L.flatMap Comp.cells)) (hG : GoodSc L) {k : Nat} (hk : k < L.length) (f : Value) :
    Meets Tryz.prog 129 #[f, scV a L.length cp (.slice ra rn rc), .int .i64 k] w fun v w' => v = .tuple #[] ∧ Same w w' := by
  have hl := hG.len
  have hkm := List.getElem_mem hk
  obtain ⟨d, hd, hd1, hd4⟩ := hG.wide _ hkm
  rw [scV]
  refine f129_ok ?_
  unfold f129
  refine knew_of fun w2 hm2 hs2 hb2 => ?_
  have hb2 : blk w2 w.heap.size = some (.cells #[.slice a L.length cp, .slice ra rn rc] 34) := hb2
  repeat (first | refine kN_at ?_ | refine kB_at ?_ | refine kfld_of ?_ | refine kext_at rfl ?_ | refine kld_at hb2 rfl ?_ | refine kldN_at hb2 rfl (by omega) ?_ | refine kG_of (by first | exact rfl | omega) ?_ | refine klen_at ?_ | refine eql_at ?_ | refine neq_at ?_ | refine lss_at ?_ | refine leq_at ?_ | refine gtr_at ?_ | refine geq_at ?_ | refine add_at (by omega) (by omega) ?_ | refine sub_at (by omega) (by omega) ?_ | refine not_at ?_ | refine kO_at ?_ | refine kprt_at rfl ?_ | refine kprtN_at rfl ?_ | refine kcap_at ?_ | refine klenStr_at ?_ | refine kN_iat ?_ | refine kN_fat ?_ | refine kIf_T (by first | exact rfl | exact decT (by omega) | exact notT (decF (by omega))) ?_ | refine kIf_F (by first | exact rfl | exact decF (by omega) | exact notF (decT (by omega))) ?_)
  refine kixldN_of (F := Comp.cells) (sz := 7) (fun _ => rfl) (by omega) (hs.same hm2) hk rfl ?_
  refine knew_of fun w8 h8 hs8 hb8 => ?_
  refine kst_of (vs := (L[k]).cells) hb8 rfl rfl rfl (by simp) (by simp [Comp.cells]) fun w9 h9 hs9 hb9 => ?_
  have hb9 : blk w9 w2.heap.size = some (.cells (L[k]).cells.toArray 132) := hb9
  have hb9' : blk w9 w2.heap.size = some (.cells #[.string (L[k]).name, .int .i64 d, .bool (L[k]).rb, .int .i64 0, .int .i64 0, .int .i64 0, .int .i64 0] 132) := by
    obtain ⟨z0, z1, z2, z3⟩ := hG.zero _ hkm
    rw [hb9]; simp [Comp.cells, hd, z0, z1, z2, z3]
  have hb29 := h9.get (h8.get hb2 (fun h => h)) (by omega)
  have m9 : Same w w9 := (hm2.trans h8).trans' (h9.mono fun k _ e => .inr (by omega))
  repeat (first | refine kN_at ?_ | refine kB_at ?_ | refine kfld_of ?_ | refine kext_at rfl ?_ | refine kld_at hb29 rfl ?_ | refine kld_at hb9' rfl ?_ | refine kldN_at hb29 rfl (by omega) ?_ | refine kldN_at hb9' rfl (by omega) ?_ | refine kG_of (by first | exact rfl | omega) ?_ | refine klen_at ?_ | refine eql_at ?_ | refine neq_at ?_ | refine lss_at ?_ | refine leq_at ?_ | refine gtr_at ?_ | refine geq_at ?_ | refine add_at (by omega) (by omega) ?_ | refine sub_at (by omega) (by omega) ?_ | refine not_at ?_ | refine kO_at ?_ | refine kprt_at rfl ?_ | refine kprtN_at rfl ?_ | refine kcap_at ?_ | refine klenStr_at ?_ | refine kN_iat ?_ | refine kN_fat ?_ | refine kIf_T (by first | exact rfl | exact decT (by omega) | exact notT (decF (by omega))) ?_ | refine kIf_F (by first | exact rfl | exact decF (by omega) | exact notF (decT (by omega))) ?_)
  have hfs := find_spec (ra := ra) (rn := rn) (rc := rc) (cp := cp) (hs.same m9) hG hk
  rw [scV] at hfs
  refine kcall_of hfs ?_
  rintro v w14 ⟨rfl, h14⟩
  have hb14 := h14.get hb9' (fun h => h)
  repeat (first | refine kN_at ?_ | refine kB_at ?_ | refine kfld_of ?_ | refine kext_at rfl ?_ | refine kld_at hb14 rfl ?_ | refine kldN_at hb14 rfl (by omega) ?_ | refine kG_of (by first | exact rfl | omega) ?_ | refine klen_at ?_ | refine eql_at ?_ | refine neq_at ?_ | refine lss_at ?_ | refine leq_at ?_ | refine gtr_at ?_ | refine geq_at ?_ | refine add_at (by omega) (by omega) ?_ | refine sub_at (by omega) (by omega) ?_ | refine not_at ?_ | refine kO_at ?_ | refine kprt_at rfl ?_ | refine kprtN_at rfl ?_ | refine kcap_at ?_ | refine klenStr_at ?_ | refine kN_iat ?_ | refine kN_fat ?_ | refine kIf_T (by first | exact rfl | exact decT (by omega) | exact notT (decF (by omega))) ?_ | refine kIf_F (by first | exact rfl | exact decF (by omega) | exact notF (decT (by omega))) ?_)
  rw [decF (show ¬ (k : Int) < (k : Int) by omega)]
  refine kcall_of (named_spec (hG.names _ hkm) f _ (by omega) w14) ?_
  rintro v w22 ⟨rfl, h22⟩
  have hb22 := h22.get hb14 (fun h => h)
  unfold f129_0
  refine kcall_of (itoaS_spec (by omega) w22) ?_
  rintro v w24 ⟨⟨s2, rfl⟩, rfl⟩
  repeat (first | refine kN_at ?_ | refine kB_at ?_ | refine kfld_of ?_ | refine kext_at rfl ?_ | refine kld_at hb22 rfl ?_ | refine kldN_at hb22 rfl (by omega) ?_ | refine kG_of (by first | exact rfl | omega) ?_ | refine klen_at ?_ | refine eql_at ?_ | refine neq_at ?_ | refine lss_at ?_ | refine leq_at ?_ | refine gtr_at ?_ | refine geq_at ?_ | refine add_at (by omega) (by omega) ?_ | refine sub_at (by omega) (by omega) ?_ | refine not_at ?_ | refine kO_at ?_ | refine kprt_at rfl ?_ | refine kprtN_at rfl ?_ | refine kcap_at ?_ | refine klenStr_at ?_ | refine kN_iat ?_ | refine kN_fat ?_ | refine kIf_T (by first | exact rfl | exact decT (by omega) | exact notT (decF (by omega))) ?_ | refine kIf_F (by first | exact rfl | exact decF (by omega) | exact notF (decT (by omega))) ?_)
  refine kcall_of (isClean_spec hd1 hd4 _) ?_
  rintro v w39 ⟨rfl, h39⟩
  refine not_at ?_
  refine kB_at ?_
  refine kIf_F rfl ?_
  exact ⟨rfl, ((m9.trans h14).trans h22).trans h39⟩
end Go.Proofs.YtlkpadfkmdgjcaaGreatDoor
end
section
set_option linter.unusedSimpArgs false
set_option linter.unusedVariables false
namespace Go.Proofs.YtlkpadfkmdgjcaaGreatDoor
open Go Go.Ev
set_option linter.unusedVariables false
set_option linter.unusedSimpArgs false
set_option maxRecDepth 100000
attribute [local irreducible] kO kB kStr kInt kN kG kIf kfld kld kldN kst knew kmap kbld kbldS kext kcnv klenStr klen kcap kprt kprtN kbool kint kstr keq kun ksl kix kiv kta kmk kmm ksem ksemU kextf kcallV kcallM kcall kL

theorem check_spec {w : World} {a : Option Addr} {L : List Comp} {cp : Nat} {ra : Option Addr} {rc : Nat} (hs : SlIs w a L.length 7 (L.flatMap Comp.cells)) (hG : GoodSc L) :
    Meets Tryz.prog 67 #[scV a L.length cp (.slice ra 0 rc)] w fun v w' => v = .nilIface ∧ Same w w' := by
  have hl := hG.len
  rw [scV]
  refine f67_ok ?_
  unfold f67
  refine knew_of fun w2 hm2 hs2 hb2 => ?_
  have hb2 : blk w2 w.heap.size = some (.cells #[.slice a L.length cp, .slice ra 0 rc] 34) := hb2
  refine kbld_of (cs := [.slice none 0 0]) rfl ?_
  refine knew_of fun w5 hm5 hs5 hb5 => ?_
  have hb25 := hm5.get hb2 (fun h => h)
  have m5 := hm2.trans hm5
  repeat (first | refine kN_at ?_ | refine kB_at ?_ | refine kfld_of ?_ | refine kext_at rfl ?_ | refine kld_at hb25 rfl ?_ | refine kldN_at hb25 rfl (by omega) ?_ | refine kG_of (by first | exact rfl | omega) ?_ | refine klen_at ?_ | refine eql_at ?_ | refine neq_at ?_ | refine lss_at ?_ | refine leq_at ?_ | refine gtr_at ?_ | refine geq_at ?_ | refine add_at (by omega) (by omega) ?_ | refine sub_at (by omega) (by omega) ?_ | refine not_at ?_ | refine kO_at ?_ | refine kprt_at rfl ?_ | refine kprtN_at rfl ?_ | refine kcap_at ?_ | refine klenStr_at ?_ | refine kN_iat ?_ | refine kN_fat ?_ | refine kIf_T (by first | exact rfl | exact decT (by omega) | exact notT (decF (by omega))) ?_ | refine kIf_F (by first | exact rfl | exact decF (by omega) | exact notF (decT (by omega))) ?_)
  refine kL1_of L.length (fun j x wr => x = .int .i64 j ∧ Same w5 wr) ⟨lI1_0 ⟨rfl, Mod.refl _ _⟩, fun x wr hx => ?_⟩
  obtain ⟨j, hj, ⟨rfl, hm⟩, hJ⟩ := lI1_step hx
  have hbr := hm.get hb25 (fun h => h)
  have h5r := hm.get hb5 (fun h => h)
  unfold f67_1
  refine lss_at ?_
  refine kB_at ?_
  refine kIf_dec (fun hlt => ?_) (fun hge => ?_)
  · have hlt : j < L.length := by omega
    unfold f67_2
    repeat (first | refine kN_at ?_ | refine kB_at ?_ | refine kfld_of ?_ | refine kext_at rfl ?_ | refine kld_at hbr rfl ?_ | refine kldN_at hbr rfl (by omega) ?_ | refine kG_of (by first | exact rfl | omega) ?_ | refine klen_at ?_ | refine eql_at ?_ | refine neq_at ?_ | refine lss_at ?_ | refine leq_at ?_ | refine gtr_at ?_ | refine geq_at ?_ | refine add_at (by omega) (by omega) ?_ | refine sub_at (by omega) (by omega) ?_ | refine not_at ?_ | refine kO_at ?_ | refine kprt_at rfl ?_ | refine kprtN_at rfl ?_ | refine kcap_at ?_ | refine klenStr_at ?_ | refine kN_iat ?_ | refine kN_fat ?_ | refine kIf_T (by first | exact rfl | exact decT (by omega) | exact notT (decF (by omega))) ?_ | refine kIf_F (by first | exact rfl | exact decF (by omega) | exact notF (decT (by omega))) ?_)
    have hcs := component_spec (ra := ra) (rn := 0) (rc := rc) (cp := cp) (hs.same (m5.trans hm)) hG hlt (.pointer (some ⟨w2.heap.size, 0, none⟩))
    rw [scV] at hcs
    refine kcall_of hcs ?_
    rintro v w23 ⟨rfl, h23⟩
    repeat (first | refine kN_at ?_ | refine kB_at ?_ | refine kfld_of ?_ | refine kext_at rfl ?_ | refine kG_of (by first | exact rfl | omega) ?_ | refine klen_at ?_ | refine eql_at ?_ | refine neq_at ?_ | refine lss_at ?_ | refine leq_at ?_ | refine gtr_at ?_ | refine geq_at ?_ | refine add_at (by omega) (by omega) ?_ | refine sub_at (by omega) (by omega) ?_ | refine not_at ?_ | refine kO_at ?_ | refine kprt_at rfl ?_ | refine kprtN_at rfl ?_ | refine kcap_at ?_ | refine klenStr_at ?_ | refine kN_iat ?_ | refine kN_fat ?_ | refine kIf_T (by first | exact rfl | exact decT (by omega) | exact notT (decF (by omega))) ?_ | refine kIf_F (by first | exact rfl | exact decF (by omega) | exact notF (decT (by omega))) ?_)
    rw [cast_succ]
    exact hJ _ _ hlt ⟨rfl, hm.trans h23⟩
  · unfold f67_4
    repeat (first | refine kN_at ?_ | refine kB_at ?_ | refine kfld_of ?_ | refine kext_at rfl ?_ | refine kld_at hbr rfl ?_ | refine kldN_at hbr rfl (by omega) ?_ | refine kG_of (by first | exact rfl | omega) ?_ | refine klen_at ?_ | refine eql_at ?_ | refine neq_at ?_ | refine lss_at ?_ | refine leq_at ?_ | refine gtr_at ?_ | refine geq_at ?_ | refine add_at (by omega) (by omega) ?_ | refine sub_at (by omega) (by omega) ?_ | refine not_at ?_ | refine kO_at ?_ | refine kprt_at rfl ?_ | refine kprtN_at rfl ?_ | refine kcap_at ?_ | refine klenStr_at ?_ | refine kN_iat ?_ | refine kN_fat ?_ | refine kIf_T (by first | exact rfl | exact decT (by omega) | exact notT (decF (by omega))) ?_ | refine kIf_F (by first | exact rfl | exact decF (by omega) | exact notF (decT (by omega))) ?_)
    refine kL1_of 0 (fun j x w1 => x = .int .i64 0 ∧ w1 = wr) ⟨lI1_0 ⟨rfl, rfl⟩, fun x w1 hx => ?_⟩
    obtain ⟨j', hj', ⟨rfl, rfl⟩, _⟩ := lI1_step hx
    unfold f67_6
    refine lss_at ?_
    refine kB_at ?_
    refine kIf_F (by simp) ?_
    unfold f67_9
    have h5r : blk w1 w2.heap.size = some (.cells #[.slice none 0 0] 213) := h5r
    repeat (first | refine kN_at ?_ | refine kB_at ?_ | refine kfld_of ?_ | refine kext_at rfl ?_ | refine kld_at h5r rfl ?_ | refine kldN_at h5r rfl (by omega) ?_ | refine kG_of (by first | exact rfl | omega) ?_ | refine klen_at ?_ | refine eql_at ?_ | refine neq_at ?_ | refine lss_at ?_ | refine leq_at ?_ | refine gtr_at ?_ | refine geq_at ?_ | refine add_at (by omega) (by omega) ?_ | refine sub_at (by omega) (by omega) ?_ | refine not_at ?_ | refine kO_at ?_ | refine kprt_at rfl ?_ | refine kprtN_at rfl ?_ | refine kcap_at ?_ | refine klenStr_at ?_ | refine kN_iat ?_ | refine kN_fat ?_ | refine kIf_T (by first | exact rfl | exact decT (by omega) | exact notT (decF (by omega))) ?_ | refine kIf_F (by first | exact rfl | exact decF (by omega) | exact notF (decT (by omega))) ?_)
    refine kcall_of (All_spec (S := fun _ => ⟨0, 0, none⟩) (d := 0) (zs := []) (SlIs.nil _ _ _) (fun p hp => by cases hp) (by simp) (by simp)) ?_
    rintro v w46 ⟨h1, h46⟩
    rcases h1.nil_iff with ⟨_, rfl⟩ | ⟨h, _⟩
    · exact ⟨rfl, (m5.trans hm).trans h46⟩
    · exact absurd rfl h
end Go.Proofs.YtlkpadfkmdgjcaaGreatDoor
end
section
set_option linter.unusedSimpArgs false
set_option linter.unusedVariables false
namespace Go.Proofs.YtlkpadfkmdgjcaaGreatDoor
open Go Go.Ev
set_option linter.unusedVariables false
set_option linter.unusedSimpArgs false
set_option maxRecDepth 100000
attribute [local irreducible] kO kB kStr kInt kN kG kIf kfld kld kldN kst knew kmap kbld kbldS kext kcnv klenStr klen kcap kprt kprtN kbool kint kstr keq kun ksl kix kiv kta kmk kmm ksem ksemU kextf kcallV kcallM kcall kL

theorem apComp : appT Tryz.prog 31 7 64 = true := by kernel_rfl
theorem slComp : isSlT Tryz.prog 31 = true := by kernel_rfl
theorem slComp_is : ∃ e, Tryz.prog.underlying 31 = some (.slice e) := slT_of (by kernel_rfl)
theorem apRes : appT Tryz.prog 32 2 24 = true := by kernel_rfl
theorem slRes : isSlT Tryz.prog 32 = true := by kernel_rfl
theorem slRes_is : ∃ e, Tryz.prog.underlying 32 = some (.slice e) := slT_of (by kernel_rfl)
theorem ones_comps : ∀ L : List Comp, oneCells (L.flatMap Comp.cells) = true
  | [] => rfl
  | q :: L => by
    rw [List.flatMap_cons]
    show oneCells (.string q.name :: .int .i64 q.width :: .bool q.rb :: .int .i64 q.d0 :: .int .i64 q.d1 :: .int .i64 q.d2 :: .int .i64 q.d3 :: L.flatMap Comp.cells) = true
    simp only [oneCells, ones_comps L]; rfl
theorem cloneC_spec {w : World} {a : Option Addr} {L : List Comp} {c : Nat} (hs : SlIs w a L.length 7 (L.flatMap Comp.cells)) (hn : L.length ≤ 1000000) :
    Meets Tryz.prog 71 #[.slice a L.length c] w fun v w' => Own w' v 7 (L.flatMap Comp.cells) ∧ Same w w' ∧ (∀ k, vblk v k → w.heap.size ≤ k) := by
  have hfl := flat_len Comp.cells 7 (fun _ => rfl) L
  refine f71_ok ?_
  unfold f71
  rw [keq_sl_nil slComp]
  cases a with
  | none =>
    have hL : L.length = 0 := by rcases hs.2 with h | ⟨_, _, _, _, _, h, _⟩; exact h; cases h
    have : L = [] := List.eq_nil_of_length_eq_zero hL
    subst this
    repeat (first | refine kN_at ?_ | refine kB_at ?_ | refine kfld_of ?_ | refine kext_at rfl ?_ | refine kG_of (by first | exact rfl | omega) ?_ | refine klen_at ?_ | refine eql_at ?_ | refine neq_at ?_ | refine lss_at ?_ | refine leq_at ?_ | refine gtr_at ?_ | refine geq_at ?_ | refine add_at (by omega) (by omega) ?_ | refine sub_at (by omega) (by omega) ?_ | refine not_at ?_ | refine kO_at ?_ | refine kprt_at rfl ?_ | refine kprtN_at rfl ?_ | refine kcap_at ?_ | refine klenStr_at ?_ | refine kN_iat ?_ | refine kN_fat ?_ | refine kIf_T (by first | exact rfl | exact decT (by omega) | exact notT (decF (by omega))) ?_ | refine kIf_F (by first | exact rfl | exact decF (by omega) | exact notF (decT (by omega))) ?_)
    exact ⟨Own.nil _ _, Mod.refl _ _, fun b hb => by obtain ⟨_, _, _, h⟩ := hb; cases h⟩
  | some a =>
    repeat (first | refine kN_at ?_ | refine kB_at ?_ | refine kfld_of ?_ | refine kext_at rfl ?_ | refine kG_of (by first | exact rfl | omega) ?_ | refine klen_at ?_ | refine eql_at ?_ | refine neq_at ?_ | refine lss_at ?_ | refine leq_at ?_ | refine gtr_at ?_ | refine geq_at ?_ | refine add_at (by omega) (by omega) ?_ | refine sub_at (by omega) (by omega) ?_ | refine not_at ?_ | refine kO_at ?_ | refine kprt_at rfl ?_ | refine kprtN_at rfl ?_ | refine kcap_at ?_ | refine klenStr_at ?_ | refine kN_iat ?_ | refine kN_fat ?_ | refine kIf_T (by first | exact rfl | exact decT (by omega) | exact notT (decF (by omega))) ?_ | refine kIf_F (by first | exact rfl | exact decF (by omega) | exact notF (decT (by omega))) ?_)
    unfold f71_0
    refine kbldS_of (cs := []) rfl fun w5 h5 hs5 hb5 => ?_
    refine ksem_append apComp (by omega) (vs := []) (Own.blk hb5 (n := 0) (by simp) (by simp [maxLen])) (Src.ofSlIs (hk := slComp_is.choose_spec) c (hs.same h5) (ones_comps L)) (by simp [hfl]; omega) (by simp [hfl]; omega) ?_
    intro v' w' ho hm hf
    refine ⟨by simpa using ho, Mod.after h5 hm (fun b hb => by rw [vblk_new hb]; exact Nat.le_refl _), fun b hb => ?_⟩
    rcases hf b hb with h | h
    · rw [vblk_new h]; exact Nat.le_refl _
    · omega
theorem cloneR_spec {w : World} {a : Option Addr} {c : Nat} :
    Meets Tryz.prog 72 #[.slice a 0 c] w fun v w' => (∃ a' n' c', v = .slice a' n' c') ∧ Same w w' := by
  refine f72_ok ?_
  unfold f72
  rw [keq_sl_nil slRes]
  cases a with
  | none =>
    repeat (first | refine kN_at ?_ | refine kB_at ?_ | refine kfld_of ?_ | refine kext_at rfl ?_ | refine kG_of (by first | exact rfl | omega) ?_ | refine klen_at ?_ | refine eql_at ?_ | refine neq_at ?_ | refine lss_at ?_ | refine leq_at ?_ | refine gtr_at ?_ | refine geq_at ?_ | refine add_at (by omega) (by omega) ?_ | refine sub_at (by omega) (by omega) ?_ | refine not_at ?_ | refine kO_at ?_ | refine kprt_at rfl ?_ | refine kprtN_at rfl ?_ | refine kcap_at ?_ | refine klenStr_at ?_ | refine kN_iat ?_ | refine kN_fat ?_ | refine kIf_T (by first | exact rfl | exact decT (by omega) | exact notT (decF (by omega))) ?_ | refine kIf_F (by first | exact rfl | exact decF (by omega) | exact notF (decT (by omega))) ?_)
    exact ⟨⟨_, _, _, rfl⟩, Mod.refl _ _⟩
  | some a =>
    repeat (first | refine kN_at ?_ | refine kB_at ?_ | refine kfld_of ?_ | refine kext_at rfl ?_ | refine kG_of (by first | exact rfl | omega) ?_ | refine klen_at ?_ | refine eql_at ?_ | refine neq_at ?_ | refine lss_at ?_ | refine leq_at ?_ | refine gtr_at ?_ | refine geq_at ?_ | refine add_at (by omega) (by omega) ?_ | refine sub_at (by omega) (by omega) ?_ | refine not_at ?_ | refine kO_at ?_ | refine kprt_at rfl ?_ | refine kprtN_at rfl ?_ | refine kcap_at ?_ | refine klenStr_at ?_ | refine kN_iat ?_ | refine kN_fat ?_ | refine kIf_T (by first | exact rfl | exact decT (by omega) | exact notT (decF (by omega))) ?_ | refine kIf_F (by first | exact rfl | exact decF (by omega) | exact notF (decT (by omega))) ?_)
    unfold f72_0
    refine kbldS_of (cs := []) rfl fun w5 h5 hs5 hb5 => ?_
    refine ksem_append apRes (by omega) (vs := []) (Own.blk hb5 (n := 0) (by simp) (by simp [maxLen])) (Src.ofSlIs (hk := slRes_is.choose_spec) c (SlIs.nil _ _ _) rfl) (by simp) (by simp) ?_
    intro v' w' ho hm hf
    obtain ⟨a', n', c', rfl, _⟩ := ho.is
    exact ⟨⟨_, _, _, rfl⟩, Mod.after h5 hm (fun b hb => by rw [vblk_new hb]; exact Nat.le_refl _)⟩
end Go.Proofs.YtlkpadfkmdgjcaaGreatDoor
end
