/-
Lemmas for the statements of this seat: no statement of the seat is proved in this part (7 of 7); the conditions stand in each theorem.
-/
import Derived.Test.YtlkpadfkmdgjcaaGreatDoorStore6
section
set_option linter.unusedSimpArgs false
set_option linter.unusedVariables false
namespace Go.Proofs.YtlkpadfkmdgjcaaGreatDoor
open Go Go.Ev
set_option linter.unusedVariables false
set_option linter.unusedSimpArgs false
set_option maxRecDepth 100000
attribute [local irreducible] kO kB kStr kInt kN kG kIf kfld kld kldN kst knew kmap kbld kbldS kext kcnv klenStr klen kcap kprt kprtN kbool kint kstr keq kun ksl kix kiv kta kmk kmm ksem ksemU kextf kcallV kcallM kcall kL

/-! ### Put, of a store -/
theorem sPut_spec {o : Lab} {w : World} {b : Nat} {p : Ptrs} {S : SM} (h : StoreP o w b p S) {i : Nat} {g : Int} (hg : S.gens[i]? = some (g, true)) {n r : Nat} (hs : S.spots[i]? = some (n, r)) (hn : n < S.tabs.length) {c : Nat} (hc : c ∈ compsM S.masks n) (hr : r < (S.tabs[n].col c).length) (q : Part) (hq : FitsP S.cs q) (hqc : q.comp = (c : Int)) :
    Meets Tryz.prog 31 #[ptrV b, entV i g, .agg q.cells.toArray] w fun v w' => v = .tuple #[.agg ((S.tabs[n].col c)[r]).cells.toArray, .nilIface] ∧
      Turned o w b { S with tabs := S.tabs.set n ⟨S.tabs[n].rows, updC S.tabs[n].col c ((S.tabs[n].col c).set r q)⟩ } w' := by
  have hclean : q.clean (wdF S.cs c) := by
    obtain ⟨d, e1, _, e3⟩ := hq
    have : d = c := by omega
    subst this; exact e3
  refine f31_ok ?_
  unfold f31
  refine knew_of fun w1 hm1 hs1 hb1 => ?_
  have hb1 : blk w1 w.heap.size = some (.cells #[.int .i64 i, .int .i64 g] 37) := hb1
  refine knew_of fun w2 hm2 hs2 hb2 => ?_
  have hb2 : blk w2 w1.heap.size = some (.cells q.cells.toArray 49) := hb2
  refine knew_of fun w4 hm4 hs4 hb4 => ?_
  have m4 : Same w w4 := (hm1.trans hm2).trans hm4
  have he4 := hm4.get (hm2.get hb1 (fun h => h)) (fun h => h)
  have hq4 := hm4.get hb2 (fun h => h)
  have hS4 := h.cut m4
  repeat (first | refine kN_at ?_ | refine kB_at ?_ | refine kfld_of ?_ | refine kext_at rfl ?_ | refine kld_at he4 rfl ?_ | refine kldN_at he4 rfl (by omega) ?_ | refine kG_of (by first | exact rfl | omega) ?_ | refine klen_at ?_ | refine eql_at ?_ | refine neq_at ?_ | refine lss_at ?_ | refine leq_at ?_ | refine gtr_at ?_ | refine geq_at ?_ | refine add_at (by omega) (by omega) ?_ | refine sub_at (by omega) (by omega) ?_ | refine not_at ?_ | refine kO_at ?_ | refine kprt_at rfl ?_ | refine kprtN_at rfl ?_ | refine kcap_at ?_ | refine klenStr_at ?_ | refine kN_iat ?_ | refine kN_fat ?_ | refine kIf_T (by first | exact rfl | exact decT (by omega) | exact notT (decF (by omega))) ?_ | refine kIf_F (by first | exact rfl | exact decF (by omega) | exact notF (decT (by omega))) ?_)
  refine kcall_of (sSpot_spec hS4 hg hs) ?_
  rintro v w7 ⟨rfl, h7⟩
  repeat (first | refine kN_at ?_ | refine kB_at ?_ | refine kfld_of ?_ | refine kext_at rfl ?_ | refine kG_of (by first | exact rfl | omega) ?_ | refine klen_at ?_ | refine eql_at ?_ | refine neq_at ?_ | refine lss_at ?_ | refine leq_at ?_ | refine gtr_at ?_ | refine geq_at ?_ | refine add_at (by omega) (by omega) ?_ | refine sub_at (by omega) (by omega) ?_ | refine not_at ?_ | refine kO_at ?_ | refine kprt_at rfl ?_ | refine kprtN_at rfl ?_ | refine kcap_at ?_ | refine klenStr_at ?_ | refine kN_iat ?_ | refine kN_fat ?_ | refine kIf_T (by first | exact rfl | exact decT (by omega) | exact notT (decF (by omega))) ?_ | refine kIf_F (by first | exact rfl | exact decF (by omega) | exact notF (decT (by omega))) ?_)
  refine knew_of fun w13 h13 hs13 hb13 => ?_
  refine kst_of (vs := [natV n, natV r]) hb13 rfl rfl rfl (by simp) (by simp) fun w14 h14 hs14 hb14 => ?_
  have hz7 := h7.size
  have m14 : Same w4 w14 := (h7.trans h13).trans' (h14.mono fun k _ e => .inr (by omega))
  rw [keq_nil_nil' ifErr]
  refine kB_at ?_
  refine kIf_F rfl ?_
  unfold f31_0
  have hq14 := m14.get hq4 (fun h => h)
  refine kldN_at (cs := q.cells) hq14 rfl (by omega) ?_
  refine kcall_of (sFits_spec (hS4.same m14) q hq) ?_
  rintro v w22 ⟨rfl, h22⟩
  refine not_at ?_
  refine kB_at ?_
  refine kIf_F rfl ?_
  unfold f31_1
  have m22 := m14.trans h22
  have he22 := m22.get he4 (fun h => h)
  have hq22 := m22.get hq4 (fun h => h)
  repeat (first | refine kN_at ?_ | refine kB_at ?_ | refine kfld_of ?_ | refine kext_at rfl ?_ | refine kld_at he22 rfl ?_ | refine kldN_at he22 rfl (by omega) ?_ | refine kG_of (by first | exact rfl | omega) ?_ | refine klen_at ?_ | refine eql_at ?_ | refine neq_at ?_ | refine lss_at ?_ | refine leq_at ?_ | refine gtr_at ?_ | refine geq_at ?_ | refine add_at (by omega) (by omega) ?_ | refine sub_at (by omega) (by omega) ?_ | refine not_at ?_ | refine kO_at ?_ | refine kprt_at rfl ?_ | refine kprtN_at rfl ?_ | refine kcap_at ?_ | refine klenStr_at ?_ | refine kN_iat ?_ | refine kN_fat ?_ | refine kIf_T (by first | exact rfl | exact decT (by omega) | exact notT (decF (by omega))) ?_ | refine kIf_F (by first | exact rfl | exact decF (by omega) | exact notF (decT (by omega))) ?_)
  refine kld_of (v := .int .i64 c) hq22 (by simp [Part.cells, hqc]) ?_
  refine kcall_of (sColumn_spec (hS4.same m22) hg hs hn hc) ?_
  rintro v w33 ⟨rfl, hC, h33⟩
  repeat (first | refine kN_at ?_ | refine kB_at ?_ | refine kfld_of ?_ | refine kext_at rfl ?_ | refine kG_of (by first | exact rfl | omega) ?_ | refine klen_at ?_ | refine eql_at ?_ | refine neq_at ?_ | refine lss_at ?_ | refine leq_at ?_ | refine gtr_at ?_ | refine geq_at ?_ | refine add_at (by omega) (by omega) ?_ | refine sub_at (by omega) (by omega) ?_ | refine not_at ?_ | refine kO_at ?_ | refine kprt_at rfl ?_ | refine kprtN_at rfl ?_ | refine kcap_at ?_ | refine klenStr_at ?_ | refine kN_iat ?_ | refine kN_fat ?_ | refine kIf_T (by first | exact rfl | exact decT (by omega) | exact notT (decF (by omega))) ?_ | refine kIf_F (by first | exact rfl | exact decF (by omega) | exact notF (decT (by omega))) ?_)
  rw [keq_nil_nil' ifErr]
  refine kB_at ?_
  refine kIf_F rfl ?_
  unfold f31_2
  have m33 := m22.trans h33
  have hS33 := hS4.same m33
  have hq33 := m33.get hq4 (fun h => h)
  have hb33 := m33.get hb4 (fun h => h)
  refine kldN_at (cs := q.cells) hq33 rfl (by omega) ?_
  refine kcall_of (cPut_spec hC hr q ⟨hqc, hclean⟩) ?_
  rintro v w44 ⟨rfl, hC44, h44⟩
  repeat (first | refine kN_at ?_ | refine kB_at ?_ | refine kfld_of ?_ | refine kext_at rfl ?_ | refine kG_of (by first | exact rfl | omega) ?_ | refine klen_at ?_ | refine eql_at ?_ | refine neq_at ?_ | refine lss_at ?_ | refine leq_at ?_ | refine gtr_at ?_ | refine geq_at ?_ | refine add_at (by omega) (by omega) ?_ | refine sub_at (by omega) (by omega) ?_ | refine not_at ?_ | refine kO_at ?_ | refine kprt_at rfl ?_ | refine kprtN_at rfl ?_ | refine kcap_at ?_ | refine klenStr_at ?_ | refine kN_iat ?_ | refine kN_fat ?_ | refine kIf_T (by first | exact rfl | exact decT (by omega) | exact notT (decF (by omega))) ?_ | refine kIf_F (by first | exact rfl | exact decF (by omega) | exact notF (decT (by omega))) ?_)
  have hb44 : blk w44 w2.heap.size = _ := h44.get hb33 (fun e => by have := e.cut.2; omega)
  refine kst_of (vs := ((S.tabs[n].col c)[r]).cells) hb44 rfl rfl rfl (by simp) (by simp [Part.cells]) fun w48 h48 hs48 hb48 => ?_
  have hb48 : blk w48 w2.heap.size = some (.cells ((S.tabs[n].col c)[r]).cells.toArray 49) := hb48
  repeat (first | refine kN_at ?_ | refine kB_at ?_ | refine kfld_of ?_ | refine kext_at rfl ?_ | refine kld_at hb48 rfl ?_ | refine kldN_at hb48 rfl (by omega) ?_ | refine kG_of (by first | exact rfl | omega) ?_ | refine klen_at ?_ | refine eql_at ?_ | refine neq_at ?_ | refine lss_at ?_ | refine leq_at ?_ | refine gtr_at ?_ | refine geq_at ?_ | refine add_at (by omega) (by omega) ?_ | refine sub_at (by omega) (by omega) ?_ | refine not_at ?_ | refine kO_at ?_ | refine kprt_at rfl ?_ | refine kprtN_at rfl ?_ | refine kcap_at ?_ | refine klenStr_at ?_ | refine kN_iat ?_ | refine kN_fat ?_ | refine kIf_T (by first | exact rfl | exact decT (by omega) | exact notT (decF (by omega))) ?_ | refine kIf_F (by first | exact rfl | exact decF (by omega) | exact notF (decT (by omega))) ?_)
  have hT := (hS33.tab n hn).setCol hc (LabEq.refl w33 _) (fun t ht => ht.elim (fun h => .inr (.inl h)) (fun h => .inr (.inr h))) h44 hC44
  have hP := hS33.setTab hn (LabEq.refl w33 _) (h44.mono fun k _ hk => FP.mono (fun t ht => .inr (.inr (.inr ⟨c, ht.elim (fun h => .inr (.inl h)) (fun h => .inr (.inr h))⟩))) hk) hT
  have hz33 := m33.size
  exact ⟨rfl, Turned.of (m4.trans m33) (LabEq.refl w33 _) hP h44 (h48.mono fun k _ e => by subst e; exact ⟨by omega, by omega⟩)⟩
theorem put_at {o : Lab} {w : World} {b : Nat} {p : Ptrs} {S : SM} (h : StoreP o w b p S) {t : Nat} (hG : GS S t) {i : Nat} {g : Int} (hg : S.gens[i]? = some (g, true)) {c : Nat} {y : Part} (hy : y ∈ partsOf S i) (hyc : y.comp = (c : Int)) (q : Part) (hq : FitsP S.cs q) (hqc : q.comp = (c : Int)) :
    Meets Tryz.prog 31 #[ptrV b, entV i g, .agg q.cells.toArray] w fun v w' => v = .tuple #[.agg y.cells.toArray, .nilIface] ∧ ∃ S', GS S' t ∧ PutS S S' i c q ∧ Turned o w b S' w' := by
  obtain ⟨n, r, hsp, hn, hcm, hr, rfl, hpc⟩ := part_at h hG hg hy hyc
  refine (sPut_spec h hg hsp hn hcm hr q hq hqc).mono ?_
  rintro v w' ⟨rfl, ht⟩
  obtain ⟨k1, k2⟩ := hG.put hg hsp hn hcm hr hpc q
  exact ⟨rfl, _, k1, k2, ht⟩
theorem sPut_dead {Sa : Nat → Addr} {k : Nat} {w : World} {r : Value} {idx gen : Int} (h : SpotErr Sa k r idx gen w) (q : Part) :
    Meets Tryz.prog 31 #[r, entV idx gen, .agg q.cells.toArray] w fun v w' => ∃ x, v = .tuple #[zPartV, x] ∧ ErrX Sa k w.heap.size x w' ∧ Same w w' := by
  refine f31_ok ?_
  unfold f31
  refine knew_of fun w1 hm1 hs1 hb1 => ?_
  have hb1 : blk w1 w.heap.size = some (.cells #[.int .i64 idx, .int .i64 gen] 37) := hb1
  refine knew_of fun w2 hm2 hs2 hb2 => ?_
  refine knew_of fun w4 hm4 hs4 hb4 => ?_
  have m4 : Same w w4 := (hm1.trans hm2).trans hm4
  have he4 := hm4.get (hm2.get hb1 (fun h => h)) (fun h => h)
  repeat (first | refine kN_at ?_ | refine kB_at ?_ | refine kfld_of ?_ | refine kext_at rfl ?_ | refine kld_at he4 rfl ?_ | refine kldN_at he4 rfl (by omega) ?_ | refine kG_of (by first | exact rfl | omega) ?_ | refine klen_at ?_ | refine eql_at ?_ | refine neq_at ?_ | refine lss_at ?_ | refine leq_at ?_ | refine gtr_at ?_ | refine geq_at ?_ | refine add_at (by omega) (by omega) ?_ | refine sub_at (by omega) (by omega) ?_ | refine not_at ?_ | refine kO_at ?_ | refine kprt_at rfl ?_ | refine kprtN_at rfl ?_ | refine kcap_at ?_ | refine klenStr_at ?_ | refine kN_iat ?_ | refine kN_fat ?_ | refine kIf_T (by first | exact rfl | exact decT (by omega) | exact notT (decF (by omega))) ?_ | refine kIf_F (by first | exact rfl | exact decF (by omega) | exact notF (decT (by omega))) ?_)
  refine kcall_of (h w4 m4) ?_
  rintro v w7 ⟨x, rfl, hx, h7⟩
  repeat (first | refine kN_at ?_ | refine kB_at ?_ | refine kfld_of ?_ | refine kext_at rfl ?_ | refine kG_of (by first | exact rfl | omega) ?_ | refine klen_at ?_ | refine eql_at ?_ | refine neq_at ?_ | refine lss_at ?_ | refine leq_at ?_ | refine gtr_at ?_ | refine geq_at ?_ | refine add_at (by omega) (by omega) ?_ | refine sub_at (by omega) (by omega) ?_ | refine not_at ?_ | refine kO_at ?_ | refine kprt_at rfl ?_ | refine kprtN_at rfl ?_ | refine kcap_at ?_ | refine klenStr_at ?_ | refine kN_iat ?_ | refine kN_fat ?_ | refine kIf_T (by first | exact rfl | exact decT (by omega) | exact notT (decF (by omega))) ?_ | refine kIf_F (by first | exact rfl | exact decF (by omega) | exact notF (decT (by omega))) ?_)
  refine knew_of fun w13 h13 hs13 hb13 => ?_
  refine kst_of (vs := [.int .i64 0, .int .i64 0]) hb13 rfl rfl rfl (by simp) (by simp) fun w14 h14 hs14 hb14 => ?_
  have hz7 := h7.size
  have m14 : Same w7 w14 := h13.trans' (h14.mono fun k _ e => .inr (by omega))
  have hx14 := hx.same m14
  have hb14' := m14.get (h7.get hb4 (fun h => h)) (fun h => h)
  obtain ⟨t, y, rfl⟩ := hx.if
  rw [keq_if_nil' ifErr]
  refine kB_at ?_
  refine kIf_T rfl ?_
  refine kbld_of (cs := [.int .i64 0, .int .i64 0, .int .i64 0, .int .i64 0, .int .i64 0, .int .i64 0]) rfl ?_
  refine kst_of (vs := [.int .i64 0, .int .i64 0, .int .i64 0, .int .i64 0, .int .i64 0, .int .i64 0]) hb14' rfl rfl rfl (by simp) (by simp) fun w18 h18 hs18 hb18 => ?_
  have hb18 : blk w18 w2.heap.size = some (.cells #[.int .i64 0, .int .i64 0, .int .i64 0, .int .i64 0, .int .i64 0, .int .i64 0] 49) := hb18
  repeat (first | refine kN_at ?_ | refine kB_at ?_ | refine kfld_of ?_ | refine kext_at rfl ?_ | refine kld_at hb18 rfl ?_ | refine kldN_at hb18 rfl (by omega) ?_ | refine kG_of (by first | exact rfl | omega) ?_ | refine klen_at ?_ | refine eql_at ?_ | refine neq_at ?_ | refine lss_at ?_ | refine leq_at ?_ | refine gtr_at ?_ | refine geq_at ?_ | refine add_at (by omega) (by omega) ?_ | refine sub_at (by omega) (by omega) ?_ | refine not_at ?_ | refine kO_at ?_ | refine kprt_at rfl ?_ | refine kprtN_at rfl ?_ | refine kcap_at ?_ | refine klenStr_at ?_ | refine kN_iat ?_ | refine kN_fat ?_ | refine kIf_T (by first | exact rfl | exact decT (by omega) | exact notT (decF (by omega))) ?_ | refine kIf_F (by first | exact rfl | exact decF (by omega) | exact notF (decT (by omega))) ?_)
  exact ⟨_, rfl, (hx14.mod h18 fun k h1 h2 e => by omega).mono (by omega), ((m4.trans h7).trans m14).trans' (h18.mono fun k _ e => .inr (by omega))⟩
theorem sPut_none {Sa : Nat → Addr} {k : Nat} {o : Lab} {w : World} {b : Nat} {p : Ptrs} {S : SM} (h : StoreP o w b p S) {i : Nat} {g : Int} (hg : S.gens[i]? = some (g, true)) {n r : Nat} (hs : S.spots[i]? = some (n, r)) (q : Part) (hq : FitsP S.cs q)
    (hc : ∀ w2, Same w w2 → Meets Tryz.prog 98 #[ptrV b, entV i g, .int .i64 q.comp] w2 fun v w' => ∃ x, v = .tuple #[.pointer none, .int .i64 0, x] ∧ ErrX Sa k w2.heap.size x w' ∧ Same w2 w') :
    Meets Tryz.prog 31 #[ptrV b, entV i g, .agg q.cells.toArray] w fun v w' => ∃ x, v = .tuple #[zPartV, x] ∧ ErrX Sa k w.heap.size x w' ∧ Same w w' := by
  refine f31_ok ?_
  unfold f31
  refine knew_of fun w1 hm1 hs1 hb1 => ?_
  have hb1 : blk w1 w.heap.size = some (.cells #[.int .i64 i, .int .i64 g] 37) := hb1
  refine knew_of fun w2 hm2 hs2 hb2 => ?_
  have hb2 : blk w2 w1.heap.size = some (.cells q.cells.toArray 49) := hb2
  refine knew_of fun w4 hm4 hs4 hb4 => ?_
  have m4 : Same w w4 := (hm1.trans hm2).trans hm4
  have he4 := hm4.get (hm2.get hb1 (fun h => h)) (fun h => h)
  have hq4 := hm4.get hb2 (fun h => h)
  have hS4 := h.same m4
  repeat (first | refine kN_at ?_ | refine kB_at ?_ | refine kfld_of ?_ | refine kext_at rfl ?_ | refine kld_at he4 rfl ?_ | refine kldN_at he4 rfl (by omega) ?_ | refine kG_of (by first | exact rfl | omega) ?_ | refine klen_at ?_ | refine eql_at ?_ | refine neq_at ?_ | refine lss_at ?_ | refine leq_at ?_ | refine gtr_at ?_ | refine geq_at ?_ | refine add_at (by omega) (by omega) ?_ | refine sub_at (by omega) (by omega) ?_ | refine not_at ?_ | refine kO_at ?_ | refine kprt_at rfl ?_ | refine kprtN_at rfl ?_ | refine kcap_at ?_ | refine klenStr_at ?_ | refine kN_iat ?_ | refine kN_fat ?_ | refine kIf_T (by first | exact rfl | exact decT (by omega) | exact notT (decF (by omega))) ?_ | refine kIf_F (by first | exact rfl | exact decF (by omega) | exact notF (decT (by omega))) ?_)
  refine kcall_of (sSpot_spec hS4 hg hs) ?_
  rintro v w7 ⟨rfl, h7⟩
  repeat (first | refine kN_at ?_ | refine kB_at ?_ | refine kfld_of ?_ | refine kext_at rfl ?_ | refine kG_of (by first | exact rfl | omega) ?_ | refine klen_at ?_ | refine eql_at ?_ | refine neq_at ?_ | refine lss_at ?_ | refine leq_at ?_ | refine gtr_at ?_ | refine geq_at ?_ | refine add_at (by omega) (by omega) ?_ | refine sub_at (by omega) (by omega) ?_ | refine not_at ?_ | refine kO_at ?_ | refine kprt_at rfl ?_ | refine kprtN_at rfl ?_ | refine kcap_at ?_ | refine klenStr_at ?_ | refine kN_iat ?_ | refine kN_fat ?_ | refine kIf_T (by first | exact rfl | exact decT (by omega) | exact notT (decF (by omega))) ?_ | refine kIf_F (by first | exact rfl | exact decF (by omega) | exact notF (decT (by omega))) ?_)
  refine knew_of fun w13 h13 hs13 hb13 => ?_
  refine kst_of (vs := [natV n, natV r]) hb13 rfl rfl rfl (by simp) (by simp) fun w14 h14 hs14 hb14 => ?_
  have hz7 := h7.size
  have m14 : Same w4 w14 := (h7.trans h13).trans' (h14.mono fun k _ e => .inr (by omega))
  rw [keq_nil_nil' ifErr]
  refine kB_at ?_
  refine kIf_F rfl ?_
  unfold f31_0
  have hq14 := m14.get hq4 (fun h => h)
  refine kldN_at (cs := q.cells) hq14 rfl (by omega) ?_
  refine kcall_of (sFits_spec (hS4.same m14) q hq) ?_
  rintro v w22 ⟨rfl, h22⟩
  refine not_at ?_
  refine kB_at ?_
  refine kIf_F rfl ?_
  unfold f31_1
  have m22 := m14.trans h22
  have he22 := m22.get he4 (fun h => h)
  have hq22 := m22.get hq4 (fun h => h)
  have hb22 := m22.get hb4 (fun h => h)
  repeat (first | refine kN_at ?_ | refine kB_at ?_ | refine kfld_of ?_ | refine kext_at rfl ?_ | refine kld_at he22 rfl ?_ | refine kldN_at he22 rfl (by omega) ?_ | refine kG_of (by first | exact rfl | omega) ?_ | refine klen_at ?_ | refine eql_at ?_ | refine neq_at ?_ | refine lss_at ?_ | refine leq_at ?_ | refine gtr_at ?_ | refine geq_at ?_ | refine add_at (by omega) (by omega) ?_ | refine sub_at (by omega) (by omega) ?_ | refine not_at ?_ | refine kO_at ?_ | refine kprt_at rfl ?_ | refine kprtN_at rfl ?_ | refine kcap_at ?_ | refine klenStr_at ?_ | refine kN_iat ?_ | refine kN_fat ?_ | refine kIf_T (by first | exact rfl | exact decT (by omega) | exact notT (decF (by omega))) ?_ | refine kIf_F (by first | exact rfl | exact decF (by omega) | exact notF (decT (by omega))) ?_)
  refine kld_of (v := .int .i64 q.comp) hq22 rfl ?_
  refine kcall_of (hc w22 (m4.trans m22)) ?_
  rintro v w33 ⟨x, rfl, hx, h33⟩
  have hb33 := h33.get hb22 (fun h => h)
  have hx0 := hx
  obtain ⟨t, y, rfl⟩ := hx0.if
  repeat (first | refine kN_at ?_ | refine kB_at ?_ | refine kfld_of ?_ | refine kext_at rfl ?_ | refine kG_of (by first | exact rfl | omega) ?_ | refine klen_at ?_ | refine eql_at ?_ | refine neq_at ?_ | refine lss_at ?_ | refine leq_at ?_ | refine gtr_at ?_ | refine geq_at ?_ | refine add_at (by omega) (by omega) ?_ | refine sub_at (by omega) (by omega) ?_ | refine not_at ?_ | refine kO_at ?_ | refine kprt_at rfl ?_ | refine kprtN_at rfl ?_ | refine kcap_at ?_ | refine klenStr_at ?_ | refine kN_iat ?_ | refine kN_fat ?_ | refine kIf_T (by first | exact rfl | exact decT (by omega) | exact notT (decF (by omega))) ?_ | refine kIf_F (by first | exact rfl | exact decF (by omega) | exact notF (decT (by omega))) ?_)
  rw [keq_if_nil' ifErr]
  refine kB_at ?_
  refine kIf_T rfl ?_
  refine kbld_of (cs := [.int .i64 0, .int .i64 0, .int .i64 0, .int .i64 0, .int .i64 0, .int .i64 0]) rfl ?_
  refine kst_of (vs := [.int .i64 0, .int .i64 0, .int .i64 0, .int .i64 0, .int .i64 0, .int .i64 0]) hb33 rfl rfl rfl (by simp) (by simp) fun w41 h41 hs41 hb41 => ?_
  have hb41 : blk w41 w2.heap.size = some (.cells #[.int .i64 0, .int .i64 0, .int .i64 0, .int .i64 0, .int .i64 0, .int .i64 0] 49) := hb41
  repeat (first | refine kN_at ?_ | refine kB_at ?_ | refine kfld_of ?_ | refine kext_at rfl ?_ | refine kld_at hb41 rfl ?_ | refine kldN_at hb41 rfl (by omega) ?_ | refine kG_of (by first | exact rfl | omega) ?_ | refine klen_at ?_ | refine eql_at ?_ | refine neq_at ?_ | refine lss_at ?_ | refine leq_at ?_ | refine gtr_at ?_ | refine geq_at ?_ | refine add_at (by omega) (by omega) ?_ | refine sub_at (by omega) (by omega) ?_ | refine not_at ?_ | refine kO_at ?_ | refine kprt_at rfl ?_ | refine kprtN_at rfl ?_ | refine kcap_at ?_ | refine klenStr_at ?_ | refine kN_iat ?_ | refine kN_fat ?_ | refine kIf_T (by first | exact rfl | exact decT (by omega) | exact notT (decF (by omega))) ?_ | refine kIf_F (by first | exact rfl | exact decF (by omega) | exact notF (decT (by omega))) ?_)
  have hz22 := m22.size
  exact ⟨_, rfl, (hx.mod h41 fun k h1 h2 e => by omega).mono (by omega), ((m4.trans m22).trans h33).trans' (h41.mono fun k _ e => .inr (by omega))⟩
/-! ### Insert where nobody is; Mask -/
theorem sInsert_dead {Sa : Nat → Addr} {k : Nat} {w : World} {r : Value} {idx gen : Int} (h : SpotErr Sa k r idx gen w) (q : Part) :
    Meets Tryz.prog 18 #[r, entV idx gen, .agg q.cells.toArray] w fun v w' => ErrX Sa k w.heap.size v w' ∧ Same w w' := by
  refine f18_ok ?_
  unfold f18
  refine knew_of fun w2 hm2 hs2 hb2 => ?_
  have hb2 : blk w2 w.heap.size = some (.cells #[.int .i64 idx, .int .i64 gen] 37) := hb2
  refine knew_of fun w4 hm4 hs4 hb4 => ?_
  have he4 := hm4.get hb2 (fun h => h)
  have m4 : Same w w4 := hm2.trans hm4
  repeat (first | refine kN_at ?_ | refine kB_at ?_ | refine kfld_of ?_ | refine kext_at rfl ?_ | refine kld_at he4 rfl ?_ | refine kldN_at he4 rfl (by omega) ?_ | refine kG_of (by first | exact rfl | omega) ?_ | refine klen_at ?_ | refine eql_at ?_ | refine neq_at ?_ | refine lss_at ?_ | refine leq_at ?_ | refine gtr_at ?_ | refine geq_at ?_ | refine add_at (by omega) (by omega) ?_ | refine sub_at (by omega) (by omega) ?_ | refine not_at ?_ | refine kO_at ?_ | refine kprt_at rfl ?_ | refine kprtN_at rfl ?_ | refine kcap_at ?_ | refine klenStr_at ?_ | refine kN_iat ?_ | refine kN_fat ?_ | refine kIf_T (by first | exact rfl | exact decT (by omega) | exact notT (decF (by omega))) ?_ | refine kIf_F (by first | exact rfl | exact decF (by omega) | exact notF (decT (by omega))) ?_)
  refine kcall_of (h w4 m4) ?_
  rintro v w7 ⟨x, rfl, hx, h7⟩
  repeat (first | refine kN_at ?_ | refine kB_at ?_ | refine kfld_of ?_ | refine kext_at rfl ?_ | refine kG_of (by first | exact rfl | omega) ?_ | refine klen_at ?_ | refine eql_at ?_ | refine neq_at ?_ | refine lss_at ?_ | refine leq_at ?_ | refine gtr_at ?_ | refine geq_at ?_ | refine add_at (by omega) (by omega) ?_ | refine sub_at (by omega) (by omega) ?_ | refine not_at ?_ | refine kO_at ?_ | refine kprt_at rfl ?_ | refine kprtN_at rfl ?_ | refine kcap_at ?_ | refine klenStr_at ?_ | refine kN_iat ?_ | refine kN_fat ?_ | refine kIf_T (by first | exact rfl | exact decT (by omega) | exact notT (decF (by omega))) ?_ | refine kIf_F (by first | exact rfl | exact decF (by omega) | exact notF (decT (by omega))) ?_)
  refine knew_of fun w11 h11 hs11 hb11 => ?_
  refine kst_of (vs := [.int .i64 0, .int .i64 0]) hb11 rfl rfl rfl (by simp) (by simp) fun w12 h12 hs12 hb12 => ?_
  have hz4 := m4.size
  have m12 : Same w7 w12 := h11.trans' (h12.mono fun k _ e => .inr (by omega))
  have hx12 := hx.same m12
  obtain ⟨t, y, rfl⟩ := hx.if
  rw [keq_if_nil' ifErr]
  refine kB_at ?_
  refine kIf_T rfl ?_
  exact ⟨hx12.mono hz4, (m4.trans h7).trans m12⟩
theorem mask_at {o : Lab} {w : World} {b : Nat} {p : Ptrs} {S : SM} (h : StoreP o w b p S) {t : Nat} (hG : GS S t) {i : Nat} {g : Int} (hg : S.gens[i]? = some (g, true)) :
    Meets Tryz.prog 33 #[ptrV b, entV i g] w fun v w' => v = .tuple #[msk (maskP (partsOf S i)), .nilIface] ∧ Same w w' := by
  obtain ⟨n, r, hsp, hn, hnm, hcol, hpe, hce, hmap, hfit, hmk, hmlt, hpc⟩ := parts_ok h hG hg
  rw [ptrV]
  refine f33_ok ?_
  unfold f33
  refine knew_of fun w2 hm2 hs2 hb2 => ?_
  have hb2 : blk w2 w.heap.size = some (.cells #[.int .i64 i, .int .i64 g] 37) := hb2
  repeat (first | refine kN_at ?_ | refine kB_at ?_ | refine kfld_of ?_ | refine kext_at rfl ?_ | refine kld_at hb2 rfl ?_ | refine kldN_at hb2 rfl (by omega) ?_ | refine kG_of (by first | exact rfl | omega) ?_ | refine klen_at ?_ | refine eql_at ?_ | refine neq_at ?_ | refine lss_at ?_ | refine leq_at ?_ | refine gtr_at ?_ | refine geq_at ?_ | refine add_at (by omega) (by omega) ?_ | refine sub_at (by omega) (by omega) ?_ | refine not_at ?_ | refine kO_at ?_ | refine kprt_at rfl ?_ | refine kprtN_at rfl ?_ | refine kcap_at ?_ | refine klenStr_at ?_ | refine kN_iat ?_ | refine kN_fat ?_ | refine kIf_T (by first | exact rfl | exact decT (by omega) | exact notT (decF (by omega))) ?_ | refine kIf_F (by first | exact rfl | exact decF (by omega) | exact notF (decT (by omega))) ?_)
  refine kcall_of (sSpot_spec (h.same hm2) hg hsp) ?_
  rintro v w5 ⟨rfl, h5⟩
  repeat (first | refine kN_at ?_ | refine kB_at ?_ | refine kfld_of ?_ | refine kext_at rfl ?_ | refine kG_of (by first | exact rfl | omega) ?_ | refine klen_at ?_ | refine eql_at ?_ | refine neq_at ?_ | refine lss_at ?_ | refine leq_at ?_ | refine gtr_at ?_ | refine geq_at ?_ | refine add_at (by omega) (by omega) ?_ | refine sub_at (by omega) (by omega) ?_ | refine not_at ?_ | refine kO_at ?_ | refine kprt_at rfl ?_ | refine kprtN_at rfl ?_ | refine kcap_at ?_ | refine klenStr_at ?_ | refine kN_iat ?_ | refine kN_fat ?_ | refine kIf_T (by first | exact rfl | exact decT (by omega) | exact notT (decF (by omega))) ?_ | refine kIf_F (by first | exact rfl | exact decF (by omega) | exact notF (decT (by omega))) ?_)
  refine knew_of fun w9 h9 hs9 hb9 => ?_
  refine kst_of (vs := [natV n, natV r]) hb9 rfl rfl rfl (by simp) (by simp) fun w10 h10 hs10 hb10 => ?_
  have hb10 : blk w10.drew w5.heap.size = some (.cells #[.int .i64 n, .int .i64 r] 153) := hb10
  have hsz5 := h5.size
  have m10 : Same w w10.drew := (((hm2.trans h5).trans h9).trans' (h10.mono fun k _ e => .inr (by omega))).trans (Mod.refl (fun _ => False) _).drew
  rw [keq_nil_nil' ifErr]
  refine kB_at ?_
  refine kIf_F rfl ?_
  unfold f33_0
  generalize w10.drew = wa at *
  have hPa := h.same m10
  have hba := hPa.here
  repeat (first | refine kN_at ?_ | refine kB_at ?_ | refine kfld_of ?_ | refine kext_at rfl ?_ | refine kld_at hba rfl ?_ | refine kld_at hb10 rfl ?_ | refine kldN_at hba rfl (by omega) ?_ | refine kldN_at hb10 rfl (by omega) ?_ | refine kG_of (by first | exact rfl | omega) ?_ | refine klen_at ?_ | refine eql_at ?_ | refine neq_at ?_ | refine lss_at ?_ | refine leq_at ?_ | refine gtr_at ?_ | refine geq_at ?_ | refine add_at (by omega) (by omega) ?_ | refine sub_at (by omega) (by omega) ?_ | refine not_at ?_ | refine kO_at ?_ | refine kprt_at rfl ?_ | refine kprtN_at rfl ?_ | refine kcap_at ?_ | refine klenStr_at ?_ | refine kN_iat ?_ | refine kN_fat ?_ | refine kIf_T (by first | exact rfl | exact decT (by omega) | exact notT (decF (by omega))) ?_ | refine kIf_F (by first | exact rfl | exact decF (by omega) | exact notF (decT (by omega))) ?_)
  refine kcall_of (maskAt_spec hPa.atlas n hnm) ?_
  rintro v w17 ⟨rfl, rfl⟩
  repeat (first | refine kN_at ?_ | refine kB_at ?_ | refine kfld_of ?_ | refine kext_at rfl ?_ | refine kG_of (by first | exact rfl | omega) ?_ | refine klen_at ?_ | refine eql_at ?_ | refine neq_at ?_ | refine lss_at ?_ | refine leq_at ?_ | refine gtr_at ?_ | refine geq_at ?_ | refine add_at (by omega) (by omega) ?_ | refine sub_at (by omega) (by omega) ?_ | refine not_at ?_ | refine kO_at ?_ | refine kprt_at rfl ?_ | refine kprtN_at rfl ?_ | refine kcap_at ?_ | refine klenStr_at ?_ | refine kN_iat ?_ | refine kN_fat ?_ | refine kIf_T (by first | exact rfl | exact decT (by omega) | exact notT (decF (by omega))) ?_ | refine kIf_F (by first | exact rfl | exact decF (by omega) | exact notF (decT (by omega))) ?_)
  exact ⟨by rw [hmk], m10⟩
end Go.Proofs.YtlkpadfkmdgjcaaGreatDoor
end
section
set_option linter.unusedSimpArgs false
set_option linter.unusedVariables false
namespace Go.Proofs.YtlkpadfkmdgjcaaGreatDoor
open Go Go.Ev
set_option linter.unusedVariables false
set_option linter.unusedSimpArgs false
set_option maxRecDepth 100000
attribute [local irreducible] kO kB kStr kInt kN kG kIf kfld kld kldN kst knew kmap kbld kbldS kext kcnv klenStr klen kcap kprt kprtN kbool kint kstr keq kun ksl kix kiv kta kmk kmm ksem ksemU kextf kcallV kcallM kcall kL

theorem sSpot_deadE {P : Nat → Prop} {Sa : Nat → Addr} {o : Lab} {w : World} (hL : LaidP P Sa w) (h17 : P 17) {b : Nat} {p : Ptrs} {S : SM} (h : StoreP o w b p S) {idx gen : Int} (hg : aliveF S.gens idx gen = false) : SpotErr Sa 17 (ptrV b) idx gen w :=
  fun w2 m2 => sSpot_dead (hL.same m2) h17 (h.same m2) hg
end Go.Proofs.YtlkpadfkmdgjcaaGreatDoor
end
section
set_option linter.unusedSimpArgs false
set_option linter.unusedVariables false
namespace Go.Proofs.YtlkpadfkmdgjcaaGreatDoor
open Go Go.Ev
set_option linter.unusedVariables false
set_option linter.unusedSimpArgs false
set_option maxRecDepth 100000

/-! ### A part more, and then less (plain) -/
def SortP (L : List Part) : Prop := L.Pairwise (fun x y => x.comp ≤ y.comp)
theorem nt_inj : ∀ {A : List Part}, NoTwice A → ∀ x ∈ A, ∀ y ∈ A, x.comp = y.comp → x = y
  | [], _, x, hx, _, _, _ => by cases hx
  | a :: A, h, x, hx, y, hy, e => by
    have h' := List.nodup_cons.1 (show (a.comp :: A.map (·.comp)).Nodup from h)
    rcases List.mem_cons.1 hx with hxa | hxA
    · rcases List.mem_cons.1 hy with hya | hyA
      · rw [hxa, hya]
      · exact absurd (show a.comp ∈ A.map (·.comp) from List.mem_map.2 ⟨y, hyA, by rw [← hxa]; exact e.symm⟩) h'.1
    · rcases List.mem_cons.1 hy with hya | hyA
      · exact absurd (show a.comp ∈ A.map (·.comp) from List.mem_map.2 ⟨x, hxA, by rw [← hya]; exact e⟩) h'.1
      · exact nt_inj h'.2 x hxA y hyA e
theorem sorted_unique {A B : List Part} (hp : A.Perm B) (hA : SortP A) (hB : SortP B) (hn : NoTwice A) : A = B :=
  List.Perm.eq_of_pairwise (le := fun x y : Part => x.comp ≤ y.comp) (fun a b ha hb h1 h2 => nt_inj hn a ha b (hp.mem_iff.2 hb) (by omega)) hA hB hp
theorem NoTwice.filter {L : List Part} (h : NoTwice L) (p : Part → Bool) : NoTwice (L.filter p) :=
  List.Nodup.sublist (List.Sublist.map _ List.filter_sublist) h
theorem sort_of_comps {L : List Part} {m : Nat} (h : L.map (·.comp) = (listF m).map (fun c : Nat => (c : Int))) : SortP L ∧ NoTwice L := by
  constructor
  · have : (L.map (·.comp)).Pairwise (fun x y : Int => x ≤ y) := by
      rw [h, List.pairwise_map]
      exact (listF_sorted m).imp (fun h => by omega)
    rwa [List.pairwise_map] at this
  · unfold NoTwice
    rw [h]
    unfold List.Nodup
    rw [List.pairwise_map]
    exact (listF_nodup _).imp (fun h e => h (by omega))
theorem partsL_sort {m v : Nat} (hm : m < 256) : SortP (partsL m v 8) := (sort_of_comps (partsL_comps hm)).1
theorem partsL_of {m v : Nat} (hm : m < 256) {L' : List Part} (hp : L'.Perm (partsL m v 8)) (hs : L'.Pairwise (fun x y => x.comp ≤ y.comp)) : L' = partsL m v 8 :=
  (sorted_unique hp.symm (partsL_sort hm) hs (partsL_nt hm)).symm
theorem partsL_ok {m v k : Nat} (hv : v ≤ 1000000) (hk : k ≤ 32) : ∀ q ∈ partsL m v k, q.ok := by
  intro q hq
  obtain ⟨i, hi, rfl⟩ := List.mem_map.1 hq
  have hi : i < k := by simpa using (List.mem_filter.1 hi).1
  unfold partQ Part.ok I64
  simp only
  omega
end Go.Proofs.YtlkpadfkmdgjcaaGreatDoor
end
section
set_option linter.unusedSimpArgs false
set_option linter.unusedVariables false
namespace Go.Proofs.YtlkpadfkmdgjcaaGreatDoor
open Go Go.Ev
set_option linter.unusedVariables false
set_option linter.unusedSimpArgs false
set_option maxRecDepth 100000
attribute [local irreducible] kO kB kStr kInt kN kG kIf kfld kld kldN kst knew kmap kbld kbldS kext kcnv klenStr klen kcap kprt kprtN kbool kint kstr keq kun ksl kix kiv kta kmk kmm ksem ksemU kextf kcallV kcallM kcall kL

theorem idx8 (n : Int) : ∃ c : Nat, c < 8 ∧ IntKind.i64.wrap ((IntKind.u64.wrap n).tmod 8) = (c : Int) := by
  have h0 : 0 ≤ IntKind.u64.wrap n := by
    simp [IntKind.wrap, IntKind.signed, IntKind.bits]
    omega
  refine ⟨((IntKind.u64.wrap n).tmod 8).toNat, ?_, ?_⟩
  · rw [Int.tmod_eq_emod_of_nonneg h0]
    omega
  · rw [Int.tmod_eq_emod_of_nonneg h0]
    generalize IntKind.u64.wrap n = z at *
    rw [wrap_i64 (by omega) (by omega)]
    omega
end Go.Proofs.YtlkpadfkmdgjcaaGreatDoor
end
section
set_option linter.unusedSimpArgs false
set_option linter.unusedVariables false
namespace Go.Proofs.YtlkpadfkmdgjcaaGreatDoor
open Go Go.Ev
set_option linter.unusedVariables false
set_option linter.unusedSimpArgs false
set_option maxRecDepth 100000
attribute [local irreducible] kO kB kStr kInt kN kG kIf kfld kld kldN kst knew kmap kbld kbldS kext kcnv klenStr klen kcap kprt kprtN kbool kint kstr keq kun ksl kix kiv kta kmk kmm ksem ksemU kextf kcallV kcallM kcall kL

theorem Cur.turnN {w0 : World} {o : Lab} {w w' : World} {b : Nat} {p : Ptrs} {S S' : SM} {t t' : Nat} (h : Cur w0 o w b p S t) (T : Turned o w b S' w') (hG : GS S' t') : ∃ o' p', Cur w0 o' w' b p' S' t' ∧ (∀ k, k < w.heap.size → o k = none → o' k = none) ∧ Mod (fun k => o k ≠ none) w w' := by
  obtain ⟨o', p', C, hl, hm⟩ := h.turn T hG
  exact ⟨o', p', C, fun k hk e => by rw [hl k hk]; exact e, hm⟩
theorem Cur.mod {w0 : World} {o : Lab} {w w2 : World} {b : Nat} {p : Ptrs} {S : SM} {t : Nat} (h : Cur w0 o w b p S t) {fp : Nat → Prop} (m : Mod fp w w2) (hf : ∀ k, fp k → o k = none) (hlo : ∀ k, fp k → w0.heap.size ≤ k) : Cur w0 o w2 b p S t :=
  ⟨h.sp.frame m (fun k t e hk => by rw [hf k hk] at e; cases e) (LabEq.refl _ _), h.gs, h.lo, fun k hk => h.hi k (Nat.le_trans m.size hk), h.same.trans' (m.mono fun k _ e => .inr (hlo k e))⟩
/-- The entities 0, 1, .. of generation 1. -/
def entL (j : Nat) : List (Int × Int) := (List.range j).map fun i : Nat => ((i : Int), (1 : Int))
theorem entL_len (j : Nat) : (entL j).length = j := by simp [entL]
theorem entL_get {j i : Nat} (h : i < (entL j).length) : (entL j)[i] = ((i : Int), (1 : Int)) := by simp [entL]
theorem entL_succ (j : Nat) : entL (j + 1) = entL j ++ [((j : Int), (1 : Int))] := by simp [entL, List.range_succ]
end Go.Proofs.YtlkpadfkmdgjcaaGreatDoor
end
section
set_option linter.unusedSimpArgs false
set_option linter.unusedVariables false
namespace Go.Proofs.YtlkpadfkmdgjcaaGreatDoor
open Go Go.Ev
set_option linter.unusedVariables false
set_option linter.unusedSimpArgs false
set_option maxRecDepth 100000

/-! ### Whatever is done to one entity: the others stay as they are -/
theorem GS.succ {S : SM} {t : Nat} (h : GS S t) : GS S (t + 1) := ⟨h.wf, h.fr, fun i x e => by have := h.gen i x e; omega, by have := h.ml; omega, h.g64⟩
structure Kept (S S' : SM) (n : Nat) : Prop where
  cs : S'.cs = S.cs
  len : S'.gens.length = S.gens.length
  others : ∀ j, j ≠ n → S'.gens[j]? = S.gens[j]?
  own : ∀ g al, S.gens[n]? = some (g, al) → ∃ al', S'.gens[n]? = some (g, al')
  parts : ∀ j gj, j ≠ n → S.gens[j]? = some (gj, true) → partsOf S' j = partsOf S j
theorem Kept.refl (S : SM) (n : Nat) : Kept S S n := ⟨rfl, rfl, fun _ _ => rfl, fun _ al h => ⟨al, h⟩, fun _ _ _ _ => rfl⟩
theorem Went.kept {S S' : SM} {L : List Part} {i : Nat} (h : Went S S' L i) : Kept S S' i := ⟨h.cs, by rw [h.gens], fun _ _ => by rw [h.gens], fun _ al e => ⟨al, by rw [h.gens]; exact e⟩, h.others⟩
theorem PutS.kept {S S' : SM} {i c : Nat} {q : Part} (h : PutS S S' i c q) : Kept S S' i := ⟨h.cs, by rw [h.gens], fun _ _ => by rw [h.gens], fun _ al e => ⟨al, by rw [h.gens]; exact e⟩, h.others⟩
def Done (o : Lab) (w : World) (b : Nat) (S : SM) (t n : Nat) (w' : World) : Prop := ∃ S', GS S' (t + 1) ∧ Kept S S' n ∧ (Same w w' ∧ S' = S ∨ Turned o w b S' w')
theorem Done.same {o : Lab} {w w' : World} {b : Nat} {S : SM} {t n : Nat} (hG : GS S t) (m : Same w w') : Done o w b S t n w' := ⟨S, hG.succ, Kept.refl S n, .inl ⟨m, rfl⟩⟩
theorem Cur.done {w0 : World} {o : Lab} {w w' : World} {b : Nat} {p : Ptrs} {S : SM} {t n : Nat} (h : Cur w0 o w b p S t) (d : Done o w b S t n w') : ∃ o' p' S', Cur w0 o' w' b p' S' (t + 1) ∧ Kept S S' n ∧ (∀ k, k < w.heap.size → o k = none → o' k = none) ∧ Mod (fun k => o k ≠ none) w w' := by
  obtain ⟨S', hG, hK, ⟨m, rfl⟩ | T⟩ := d
  · have C := h.loc m
    exact ⟨o, p, S', ⟨C.sp, hG, C.lo, C.hi, C.same⟩, hK, fun _ _ e => e, Mod.of_same m⟩
  · obtain ⟨o', p', C, hk, hm⟩ := h.turnN T hG
    exact ⟨o', p', S', C, hK, hk, hm⟩
theorem FreeOk.lt {S : SM} (h : FreeOk S) {i : Nat} {g : Int} (hg : S.gens[i]? = some (g, true)) : S.free.length < S.gens.length := by
  have hil := (List.getElem?_eq_some_iff.1 hg).1
  have hni : i ∉ S.free := fun hm => by
    obtain ⟨g', e⟩ := (h.2 i).1 hm
    rw [hg] at e; cases e
  have hnd : (i :: S.free).Nodup := List.nodup_cons.2 ⟨hni, h.1⟩
  have := List.Nodup.length_le_of_subset hnd (l₂ := List.range S.gens.length) (fun a ha => by
    rcases List.mem_cons.1 ha with rfl | ha
    · simpa using hil
    · obtain ⟨g', e⟩ := (h.2 a).1 ha
      simpa using (List.getElem?_eq_some_iff.1 e).1)
  simp at this
  omega
theorem dead2 {gens : List (Int × Bool)} {i : Nat} {g : Int} (h : gens[i]? = some (g, false)) : aliveF gens i g = false := by
  unfold aliveF
  rw [Int.toNat_natCast, h]
  simp
theorem none_at {o : Lab} {w : World} {b : Nat} {p : Ptrs} {S : SM} (h : StoreP o w b p S) {t : Nat} (hG : GS S t) {i : Nat} {g : Int} (hg : S.gens[i]? = some (g, true)) {c : Int} (hno : ∀ x ∈ partsOf S i, x.comp ≠ c) :
    ∃ n r, S.spots[i]? = some (n, r) ∧ ∃ hn : n < S.tabs.length, ∀ x ∈ compsM S.masks n, (x : Int) ≠ c := by
  obtain ⟨n, r, hsp, hn, hnm, _, hpe, hce, hmap, _⟩ := parts_ok h hG hg
  refine ⟨n, r, hsp, hn, fun x hx e => ?_⟩
  rw [hce] at hx
  have h1 : (x : Int) ∈ (partsOf S i).map (·.comp) := hmap ▸ List.mem_map.2 ⟨x, hx, rfl⟩
  obtain ⟨y, hy, e2⟩ := List.mem_map.1 h1
  exact hno y hy (e2.trans e)
theorem has_or (L : List Part) (c : Int) : (∃ y ∈ L, y.comp = c) ∨ ∀ x ∈ L, x.comp ≠ c := by
  by_cases h : ∃ y ∈ L, y.comp = c
  · exact .inl h
  · exact .inr fun x hx e => h ⟨x, hx, e⟩
theorem despawn_any {pr : Nat → Prop} {Sa : Nat → Addr} {o : Lab} {w : World} (hL : LaidP pr Sa w) (h17 : pr 17) {b : Nat} {p : Ptrs} {S : SM} (h : StoreP o w b p S) {t : Nat} (hG : GS S t) {i : Nat} {g : Int} {al : Bool} (hg : S.gens[i]? = some (g, al)) :
    Meets Tryz.prog 27 #[ptrV b, entV i g] w fun _ w' => Done o w b S t i w' := by
  cases al with
  | false =>
    refine (sDespawn_err (sSpot_deadE hL h17 h (dead2 hg))).mono ?_
    rintro v w' ⟨x, _, _, m⟩
    exact Done.same hG m
  | true =>
    refine (despawn_at h hG hg (hG.fr.lt hg)).mono ?_
    rintro v w' ⟨sv, _, _, _, S', hG', e1, e2, e3, e4, e5, e6, T⟩
    have hil := (List.getElem?_eq_some_iff.1 hg).1
    refine ⟨S', hG'.succ, ⟨e3, by rw [e1, List.length_set], fun j hj => by rw [e1, List.getElem?_set_ne (fun e => hj e.symm)], fun g' al' e => ⟨false, ?_⟩, e6⟩, .inr T.t⟩
    rw [hg] at e
    cases e
    rw [e1, List.getElem?_set, if_pos rfl, if_pos hil]
theorem insert_any {pr : Nat → Prop} {Sa : Nat → Addr} {o : Lab} {w : World} (hL : LaidP pr Sa w) (h9 : pr 9) (h17 : pr 17) (hD : DeAt w) {b : Nat} {p : Ptrs} {S : SM} (h : StoreP o w b p S) (hDo : o 18 = none) {t : Nat} (hG : GS S t) (ht : t ≤ 10000) {i : Nat} {g : Int} {al : Bool} (hg : S.gens[i]? = some (g, al)) {q : Part} (hq : FitsP S.cs q) :
    Meets Tryz.prog 18 #[ptrV b, entV i g, .agg q.cells.toArray] w fun _ w' => Done o w b S t i w' := by
  cases al with
  | false =>
    refine (sInsert_dead (sSpot_deadE hL h17 h (dead2 hg)) q).mono ?_
    rintro v w' ⟨_, m⟩
    exact Done.same hG m
  | true =>
    rcases has_or (partsOf S i) q.comp with ⟨y, hy, hyc⟩ | hno
    · refine (insert_twice hL h9 h hG hg hq hy hyc).mono ?_
      rintro v w' ⟨_, m⟩
      exact Done.same hG m
    · refine (insert_at hD h hDo hG ht hg hq hno).mono ?_
      rintro v w' ⟨_, S', hG', hW, T⟩
      exact ⟨S', hG', hW.kept, .inr T⟩
theorem remove_any {pr : Nat → Prop} {Sa : Nat → Addr} {o : Lab} {w : World} (hL : LaidP pr Sa w) (h7 : pr 7) (h17 : pr 17) (hD : DeAt w) {b : Nat} {p : Ptrs} {S : SM} (h : StoreP o w b p S) (hDo : o 18 = none) {t : Nat} (hG : GS S t) (ht : t ≤ 10000) {i : Nat} {g : Int} {al : Bool} (hg : S.gens[i]? = some (g, al)) (c : Nat) :
    Meets Tryz.prog 24 #[ptrV b, entV i g, .int .i64 c] w fun _ w' => Done o w b S t i w' := by
  cases al with
  | false =>
    refine (sRemove_err (Sa := Sa) (k := 17) fun w2 m2 => sColumn_dead (hL.same m2) h17 (h.same m2) (dead2 hg) c).mono ?_
    rintro v w' ⟨x, _, _, m⟩
    exact Done.same hG m
  | true =>
    rcases has_or (partsOf S i) c with ⟨y, hy, hyc⟩ | hno
    · refine (remove_at hD h hDo hG ht hg hy hyc).mono ?_
      rintro v w' ⟨_, S', hG', hW, T⟩
      exact ⟨S', hG', hW.kept, .inr T⟩
    · obtain ⟨n, r, hsp, hn, hnc⟩ := none_at h hG hg hno
      refine (sRemove_err (Sa := Sa) (k := 7) fun w2 m2 => sColumn_none (hL.same m2) h7 (h.same m2) hg hsp hn hnc).mono ?_
      rintro v w' ⟨x, _, _, m⟩
      exact Done.same hG m
theorem put_any {pr : Nat → Prop} {Sa : Nat → Addr} {o : Lab} {w : World} (hL : LaidP pr Sa w) (h7 : pr 7) (h17 : pr 17) {b : Nat} {p : Ptrs} {S : SM} (h : StoreP o w b p S) {t : Nat} (hG : GS S t) {i : Nat} {g : Int} {al : Bool} (hg : S.gens[i]? = some (g, al)) {q : Part} (hq : FitsP S.cs q) :
    Meets Tryz.prog 31 #[ptrV b, entV i g, .agg q.cells.toArray] w fun _ w' => Done o w b S t i w' := by
  cases al with
  | false =>
    refine (sPut_dead (sSpot_deadE hL h17 h (dead2 hg)) q).mono ?_
    rintro v w' ⟨x, _, _, m⟩
    exact Done.same hG m
  | true =>
    rcases has_or (partsOf S i) q.comp with ⟨y, hy, hyc⟩ | hno
    · obtain ⟨c, hqc, _, _⟩ := id hq
      refine (put_at h hG hg hy (hyc.trans hqc) q hq hqc).mono ?_
      rintro v w' ⟨_, S', hG', hW, T⟩
      exact ⟨S', hG'.succ, hW.kept, .inr T⟩
    · obtain ⟨n, r, hsp, hn, hnc⟩ := none_at h hG hg hno
      refine (sPut_none (Sa := Sa) (k := 7) h hg hsp q hq fun w2 m2 => sColumn_none (hL.same m2) h7 (h.same m2) hg hsp hn hnc).mono ?_
      rintro v w' ⟨x, _, _, m⟩
      exact Done.same hG m
theorem set_any {pr : Nat → Prop} {Sa : Nat → Addr} {o : Lab} {w : World} (hL : LaidP pr Sa w) (h7 : pr 7) (h17 : pr 17) {b : Nat} {p : Ptrs} {S : SM} (h : StoreP o w b p S) {t : Nat} (hG : GS S t) {i : Nat} {g : Int} {al : Bool} (hg : S.gens[i]? = some (g, al)) {c : Nat} {cell : Nat} (hc : cell < wdF S.cs c) (value frame : Int) :
    Meets Tryz.prog 32 #[ptrV b, entV i g, .int .i64 c, .int .i64 cell, .int .i64 value, .int .i64 frame] w fun _ w' => Done o w b S t i w' := by
  cases al with
  | false =>
    refine (sSet_err (Sa := Sa) (k := 17) fun w2 m2 => sColumn_dead (hL.same m2) h17 (h.same m2) (dead2 hg) c).mono ?_
    rintro v w' ⟨x, _, _, m⟩
    exact Done.same hG m
  | true =>
    rcases has_or (partsOf S i) c with ⟨y, hy, hyc⟩ | hno
    · refine (set_at h hG hg hy hyc hc value frame).mono ?_
      rintro v w' ⟨_, S', hG', hW, T⟩
      exact ⟨S', hG'.succ, hW.kept, .inr T⟩
    · obtain ⟨n, r, hsp, hn, hnc⟩ := none_at h hG hg hno
      refine (sSet_err (Sa := Sa) (k := 7) fun w2 m2 => sColumn_none (hL.same m2) h7 (h.same m2) hg hsp hn hnc).mono ?_
      rintro v w' ⟨x, _, _, m⟩
      exact Done.same hG m
end Go.Proofs.YtlkpadfkmdgjcaaGreatDoor
end
section
set_option linter.unusedSimpArgs false
set_option linter.unusedVariables false
namespace Go.Proofs.YtlkpadfkmdgjcaaGreatDoor
open Go Go.Ev
set_option linter.unusedVariables false
set_option linter.unusedSimpArgs false
set_option maxRecDepth 100000
attribute [local irreducible] kO kB kStr kInt kN kG kIf kfld kld kldN kst knew kmap kbld kbldS kext kcnv klenStr klen kcap kprt kprtN kbool kint kstr keq kun ksl kix kiv kta kmk kmm ksem ksemU kextf kcallV kcallM kcall kL

/-! ### StoreApart, walked: an act -/
structure ActM where
  kind : Int
  n : Int
  e1 : Int
  e2 : Int
  sa : Option Addr
  sn : Nat
  sc : Nat
  p : Part
  comp : Int
  cell : Int
  value : Int
  m : Int
  w : Int
def ActM.cells (a : ActM) : List Value := [.int .i64 a.kind, .int .i64 a.n, .int .i64 a.e1, .int .i64 a.e2, .slice a.sa a.sn a.sc, .int .i64 a.p.comp, .int .i64 a.p.v0, .int .i64 a.p.v1, .int .i64 a.p.v2, .int .i64 a.p.v3, .int .i64 a.p.tick, .int .i64 a.comp, .int .i64 a.cell, .int .i64 a.value, .int .u32 a.m, .int .u32 a.w]
def pA (c : Nat) (v : Int) : Part := ⟨(c : Int), v, 0, 0, 0, 0⟩
theorem pA_fits {c : Nat} (h : c < 8) (v : Int) : FitsP wideC (pA c v) := by
  refine ⟨c, rfl, by rw [wideC_len]; exact h, ?_⟩
  rw [wd_wide h]
  intro x hx
  have : x ∈ [(0 : Int), 0, 0] := hx
  simpa using this
/-- What holds behind j acts. -/
def ApJ (w0 : World) (b n k m v : Nat) (x : Value) (j : Nat) (y : Value) (w : World) : Prop :=
  y = .int .i64 j ∧ ∃ o p S, Cur w0 o w b p S (n + j) ∧ S.cs = wideC ∧ (∀ i, i < n → ∃ al, S.gens[i]? = some (1, al)) ∧ S.gens[k]? = some (1, true) ∧ partsOf S k = partsL m v 8 ∧ Own w x 2 ((entL n).flatMap entC) ∧ ∀ k', vblk x k' → o k' = none
theorem ap_next {w0 w w' : World} {b n k m v j i : Nat} {x : Value} {o : Lab} {p : Ptrs} {S : SM} (C : Cur w0 o w b p S (n + j)) (hcs : S.cs = wideC) (hg : ∀ i, i < n → ∃ al, S.gens[i]? = some (1, al)) (hk : S.gens[k]? = some (1, true)) (hpk : partsOf S k = partsL m v 8)
    (hO : Own w x 2 ((entL n).flatMap entC)) (hOl : ∀ k', vblk x k' → o k' = none) (hik : i ≠ k) (d : Done o w b S (n + j) i w') : ApJ w0 b n k m v x (j + 1) (.int .i64 ((j + 1 : Nat) : Int)) w' := by
  obtain ⟨o', p', S', C', K, hk', hm⟩ := C.done d
  refine ⟨rfl, o', p', S', C', K.cs.trans hcs, fun i' hi' => ?_, ?_, ?_, hO.mod hm fun k hk hne => hne (hOl k hk), fun k' hk2 => hk' k' (hO.vblk_lt hk2) (hOl k' hk2)⟩
  · by_cases h : i' = i
    · subst h
      obtain ⟨al, e⟩ := hg i' hi'
      exact K.own _ _ e
    · rw [K.others i' h]; exact hg i' hi'
  · rw [K.others k (fun e => hik e.symm)]; exact hk
  · rw [K.parts k 1 (fun e => hik e.symm) hk]; exact hpk
theorem ap_act {pr : Nat → Prop} {Sa : Nat → Addr} {w0 w : World} (hD : DeAt w0) (hL : LaidP pr Sa w0) (h7 : pr 7) (h9 : pr 9) (h17 : pr 17) {b n k m v j i : Nat} {o : Lab} {p : Ptrs} {S : SM} (hn : n ≤ 60) (hj : j < 150) (C : Cur w0 o w b p S (n + j)) (hcs : S.cs = wideC) (hg : ∀ i, i < n → ∃ al, S.gens[i]? = some (1, al)) (hk : S.gens[k]? = some (1, true)) (hpk : partsOf S k = partsL m v 8)
    {a : Option Addr} {c : Nat} (hO : Own w (.slice a (entL n).length c) 2 ((entL n).flatMap entC)) (hOl : ∀ k', vblk (.slice a (entL n).length c) k' → o k' = none) (hi : i < n) (hik : i ≠ k) {act : ActM} {bx : Nat} (hb : blk w bx = some (.cells act.cells.toArray 66)) (x0 x2 x13 : Value) {J : Value → World → Prop}
    (hJ : ∀ w', ApJ w0 b n k m v (.slice a (entL n).length c) (j + 1) (.int .i64 ((j + 1 : Nat) : Int)) w' → J (.int .i64 ((j + 1 : Nat) : Int)) w') (Q : Value → World → Prop) :
    f6_12 x0 x2 (.pointer (some ⟨b, 0, none⟩)) (.slice a (entL n).length c) x13 (.int .i64 j) (.pointer (some ⟨bx, 0, none⟩)) (.int .i64 i) J Q w := by
  have hDlt := hD.lt
  obtain ⟨d, hd, ed⟩ := idx8 act.comp
  unfold f6_12
  refine kfld_of ?_
  refine kld_of (v := .int .i64 act.comp) hb rfl ?_
  rw [kcnv_int, kint_rem]
  refine kG_of (by decide) ?_
  rw [kcnv_int, ed]
  refine kfld_of ?_
  refine kld_of (v := .int .i64 act.value) hb rfl ?_
  refine kbld_of (cs := [.int .i64 act.value, .int .i64 0, .int .i64 0, .int .i64 0]) rfl ?_
  refine kbld_of (cs := (pA d act.value).cells) rfl ?_
  refine knew_of fun w88 h88 hs88 hb88 => ?_
  refine kst_of (vs := (pA d act.value).cells) hb88 rfl rfl rfl (by simp) (by simp [Part.cells]) fun w89 h89 hs89 hb89 => ?_
  have hp89 : blk w89 w.heap.size = some (.cells (pA d act.value).cells.toArray 49) := hb89
  have m89 : Same w w89 := h88.trans' (h89.mono fun k _ e => .inr (by omega))
  have hb89' := m89.get hb (fun h => h)
  have C89 := C.loc m89
  have md : Same w89 w89.drew := (Mod.refl (fun _ => False) _).drew
  have Cd := C89.loc md
  have hO89 := hO.same m89
  have hOd := hO89.same md
  have hpd : blk w89.drew w.heap.size = _ := hp89
  have hbd : blk w89.drew bx = _ := hb89'
  obtain ⟨_, _, _, e0, hs, _⟩ := hO89.is
  cases e0
  have hil : i < (entL n).length := by rw [entL_len]; exact hi
  have hel := entL_get hil
  obtain ⟨al, hgi⟩ := hg i hi
  have hfit : FitsP S.cs (pA d act.value) := hcs ▸ pA_fits hd _
  refine kfld_of ?_
  refine kld_of (v := .int .i64 act.kind) hb89' rfl ?_
  refine eql_at ?_
  refine kB_at ?_
  refine kIf_dec (fun hk2 => ?_) (fun hk2 => ?_)
  · refine kixldN_of (F := entC) (sz := 2) (fun _ => rfl) (by omega) hs hil rfl ?_
    rw [hel]
    refine kcall_of (despawn_any (hL.same C89.same) h17 C89.sp C89.gs hgi) ?_
    rintro _ w96 hd96
    unfold f6_11
    repeat (first | refine kN_at ?_ | refine kB_at ?_ | refine kfld_of ?_ | refine kext_at rfl ?_ | refine kG_of (by first | exact rfl | omega) ?_ | refine klen_at ?_ | refine eql_at ?_ | refine neq_at ?_ | refine lss_at ?_ | refine leq_at ?_ | refine gtr_at ?_ | refine geq_at ?_ | refine add_at (by omega) (by omega) ?_ | refine sub_at (by omega) (by omega) ?_ | refine not_at ?_ | refine kO_at ?_ | refine kprt_at rfl ?_ | refine kprtN_at rfl ?_ | refine kcap_at ?_ | refine klenStr_at ?_ | refine kN_iat ?_ | refine kN_fat ?_ | refine kIf_T (by first | exact rfl | exact decT (by omega) | exact notT (decF (by omega))) ?_ | refine kIf_F (by first | exact rfl | exact decF (by omega) | exact notF (decT (by omega))) ?_)
    rw [cast_succ]
    exact hJ _ (ap_next C89 hcs hg hk hpk hO89 hOl hik hd96)
  refine eql_at ?_
  refine kB_at ?_
  refine kIf_dec (fun hk3 => ?_) (fun hk3 => ?_)
  · refine kixldN_of (F := entC) (sz := 2) (fun _ => rfl) (by omega) hs hil rfl ?_
    rw [hel]
    refine kG_of rfl ?_
    refine kldN_at (cs := (pA d act.value).cells) hpd rfl (by omega) ?_
    refine kG_of rfl ?_
    refine kcall_of (insert_any (hL.same Cd.same) h9 h17 (hD.same Cd.same) Cd.sp (Cd.lo _ hDlt) Cd.gs (by omega) hgi hfit) ?_
    rintro _ w96 hd96
    unfold f6_11
    repeat (first | refine kN_at ?_ | refine kB_at ?_ | refine kfld_of ?_ | refine kext_at rfl ?_ | refine kG_of (by first | exact rfl | omega) ?_ | refine klen_at ?_ | refine eql_at ?_ | refine neq_at ?_ | refine lss_at ?_ | refine leq_at ?_ | refine gtr_at ?_ | refine geq_at ?_ | refine add_at (by omega) (by omega) ?_ | refine sub_at (by omega) (by omega) ?_ | refine not_at ?_ | refine kO_at ?_ | refine kprt_at rfl ?_ | refine kprtN_at rfl ?_ | refine kcap_at ?_ | refine klenStr_at ?_ | refine kN_iat ?_ | refine kN_fat ?_ | refine kIf_T (by first | exact rfl | exact decT (by omega) | exact notT (decF (by omega))) ?_ | refine kIf_F (by first | exact rfl | exact decF (by omega) | exact notF (decT (by omega))) ?_)
    rw [cast_succ]
    exact hJ _ (ap_next Cd hcs hg hk hpk hOd hOl hik hd96)
  refine eql_at ?_
  refine kB_at ?_
  refine kIf_dec (fun hk4 => ?_) (fun hk4 => ?_)
  · refine kixldN_of (F := entC) (sz := 2) (fun _ => rfl) (by omega) hs hil rfl ?_
    rw [hel]
    refine kG_of rfl ?_
    refine kfld_of ?_
    refine kld_of (v := .int .i64 d) hpd rfl ?_
    refine kG_of rfl ?_
    refine kcall_of (remove_any (hL.same Cd.same) h7 h17 (hD.same Cd.same) Cd.sp (Cd.lo _ hDlt) Cd.gs (by omega) hgi d) ?_
    rintro _ w96 hd96
    unfold f6_11
    repeat (first | refine kN_at ?_ | refine kB_at ?_ | refine kfld_of ?_ | refine kext_at rfl ?_ | refine kG_of (by first | exact rfl | omega) ?_ | refine klen_at ?_ | refine eql_at ?_ | refine neq_at ?_ | refine lss_at ?_ | refine leq_at ?_ | refine gtr_at ?_ | refine geq_at ?_ | refine add_at (by omega) (by omega) ?_ | refine sub_at (by omega) (by omega) ?_ | refine not_at ?_ | refine kO_at ?_ | refine kprt_at rfl ?_ | refine kprtN_at rfl ?_ | refine kcap_at ?_ | refine klenStr_at ?_ | refine kN_iat ?_ | refine kN_fat ?_ | refine kIf_T (by first | exact rfl | exact decT (by omega) | exact notT (decF (by omega))) ?_ | refine kIf_F (by first | exact rfl | exact decF (by omega) | exact notF (decT (by omega))) ?_)
    rw [cast_succ]
    exact hJ _ (ap_next Cd hcs hg hk hpk hOd hOl hik hd96)
  refine eql_at ?_
  refine kB_at ?_
  refine kIf_dec (fun hk5 => ?_) (fun hk5 => ?_)
  · refine kixldN_of (F := entC) (sz := 2) (fun _ => rfl) (by omega) hs hil rfl ?_
    rw [hel]
    refine kG_of rfl ?_
    refine kldN_at (cs := (pA d act.value).cells) hpd rfl (by omega) ?_
    refine kG_of rfl ?_
    refine kcall_of (put_any (hL.same Cd.same) h7 h17 Cd.sp Cd.gs hgi hfit) ?_
    rintro _ w96 hd96
    unfold f6_11
    repeat (first | refine kN_at ?_ | refine kB_at ?_ | refine kfld_of ?_ | refine kext_at rfl ?_ | refine kG_of (by first | exact rfl | omega) ?_ | refine klen_at ?_ | refine eql_at ?_ | refine neq_at ?_ | refine lss_at ?_ | refine leq_at ?_ | refine gtr_at ?_ | refine geq_at ?_ | refine add_at (by omega) (by omega) ?_ | refine sub_at (by omega) (by omega) ?_ | refine not_at ?_ | refine kO_at ?_ | refine kprt_at rfl ?_ | refine kprtN_at rfl ?_ | refine kcap_at ?_ | refine klenStr_at ?_ | refine kN_iat ?_ | refine kN_fat ?_ | refine kIf_T (by first | exact rfl | exact decT (by omega) | exact notT (decF (by omega))) ?_ | refine kIf_F (by first | exact rfl | exact decF (by omega) | exact notF (decT (by omega))) ?_)
    rw [cast_succ]
    exact hJ _ (ap_next Cd hcs hg hk hpk hOd hOl hik hd96)
  refine eql_at ?_
  refine kB_at ?_
  refine kIf_dec (fun hk6 => ?_) (fun hk6 => ?_)
  · refine kixldN_of (F := entC) (sz := 2) (fun _ => rfl) (by omega) hs hil rfl ?_
    rw [hel]
    refine kG_of rfl ?_
    refine kfld_of ?_
    refine kld_of (v := .int .i64 d) hpd rfl ?_
    refine kG_of rfl ?_
    refine kfld_of ?_
    refine kld_of (v := .int .i64 act.value) hbd rfl ?_
    refine kG_of rfl ?_
    refine kcall_of (set_any (hL.same Cd.same) h7 h17 Cd.sp Cd.gs hgi (c := d) (cell := 0) (by rw [hcs, wd_wide hd]; omega) act.value j) ?_
    rintro _ w96 hd96
    unfold f6_11
    repeat (first | refine kN_at ?_ | refine kB_at ?_ | refine kfld_of ?_ | refine kext_at rfl ?_ | refine kG_of (by first | exact rfl | omega) ?_ | refine klen_at ?_ | refine eql_at ?_ | refine neq_at ?_ | refine lss_at ?_ | refine leq_at ?_ | refine gtr_at ?_ | refine geq_at ?_ | refine add_at (by omega) (by omega) ?_ | refine sub_at (by omega) (by omega) ?_ | refine not_at ?_ | refine kO_at ?_ | refine kprt_at rfl ?_ | refine kprtN_at rfl ?_ | refine kcap_at ?_ | refine klenStr_at ?_ | refine kN_iat ?_ | refine kN_fat ?_ | refine kIf_T (by first | exact rfl | exact decT (by omega) | exact notT (decF (by omega))) ?_ | refine kIf_F (by first | exact rfl | exact decF (by omega) | exact notF (decT (by omega))) ?_)
    rw [cast_succ]
    exact hJ _ (ap_next Cd hcs hg hk hpk hOd hOl hik hd96)
  · unfold f6_11
    repeat (first | refine kN_at ?_ | refine kB_at ?_ | refine kfld_of ?_ | refine kext_at rfl ?_ | refine kG_of (by first | exact rfl | omega) ?_ | refine klen_at ?_ | refine eql_at ?_ | refine neq_at ?_ | refine lss_at ?_ | refine leq_at ?_ | refine gtr_at ?_ | refine geq_at ?_ | refine add_at (by omega) (by omega) ?_ | refine sub_at (by omega) (by omega) ?_ | refine not_at ?_ | refine kO_at ?_ | refine kprt_at rfl ?_ | refine kprtN_at rfl ?_ | refine kcap_at ?_ | refine klenStr_at ?_ | refine kN_iat ?_ | refine kN_fat ?_ | refine kIf_T (by first | exact rfl | exact decT (by omega) | exact notT (decF (by omega))) ?_ | refine kIf_F (by first | exact rfl | exact decF (by omega) | exact notF (decT (by omega))) ?_)
    rw [cast_succ]
    exact hJ _ (ap_next C89 hcs hg hk hpk hO89 hOl hik (Done.same C89.gs (Mod.refl _ _)))
theorem ap_end {w0 w : World} {b n k : Nat} {L : List Nat} {t : Nat} {o : Lab} {p : Ptrs} {S : SM} (hn : n ≤ 60) (C : Cur w0 o w b p S t) (hk : S.gens[k]? = some (1, true)) (hkn : k < n) (hLn : L.length = n) (hpk : partsOf S k = partsL ((L[k]?).getD 0 &&& 255) (100 * k) 8)
    {a : Option Addr} {c : Nat} (hO : Own w (.slice a (entL n).length c) 2 ((entL n).flatMap entC)) {a0 : Option Addr} {c0 : Nat} (hs0 : SlIs w0 a0 L.length 1 (L.map msk)) (hL32 : ∀ x ∈ L, x < 4294967296) :
    f6_13 (.slice a0 L.length c0) (.pointer (some ⟨b, 0, none⟩)) (.slice a (entL n).length c) (.int .i64 k) (fun v w' => v = .bool true ∧ Same w0 w') w := by
  obtain ⟨_, _, _, e0, hs, _⟩ := hO.is
  cases e0
  have hkl : k < (entL n).length := by rw [entL_len]; exact hkn
  have hel := entL_get hkl
  have hkL : k < L.length := by omega
  have hxk := hL32 _ (List.getElem_mem hkL)
  rw [List.getElem?_eq_getElem hkL] at hpk
  have hpk : partsOf S k = partsL (L[k] &&& 255) (100 * k) 8 := hpk
  have hm := msk_lt255 L[k]
  unfold f6_13
  refine kixldN_of (F := entC) (sz := 2) (fun _ => rfl) (by omega) hs hkl rfl ?_
  rw [hel]
  refine kcall_of (parts_at C.sp C.gs (i := k) (g := 1) hk) ?_
  rintro v w134 ⟨sv, rfl, hOv, hfv, h134⟩
  repeat (first | refine kN_at ?_ | refine kB_at ?_ | refine kfld_of ?_ | refine kext_at rfl ?_ | refine kG_of (by first | exact rfl | omega) ?_ | refine klen_at ?_ | refine eql_at ?_ | refine neq_at ?_ | refine lss_at ?_ | refine leq_at ?_ | refine gtr_at ?_ | refine geq_at ?_ | refine add_at (by omega) (by omega) ?_ | refine sub_at (by omega) (by omega) ?_ | refine not_at ?_ | refine kO_at ?_ | refine kprt_at rfl ?_ | refine kprtN_at rfl ?_ | refine kcap_at ?_ | refine klenStr_at ?_ | refine kN_iat ?_ | refine kN_fat ?_ | refine kIf_T (by first | exact rfl | exact decT (by omega) | exact notT (decF (by omega))) ?_ | refine kIf_F (by first | exact rfl | exact decF (by omega) | exact notF (decT (by omega))) ?_)
  refine kixldN_of (F := entC) (sz := 2) (fun _ => rfl) (by omega) (hs.same h134) hkl rfl ?_
  rw [hel]
  refine kcall_of (mask_at (C.sp.same h134) C.gs (i := k) (g := 1) hk) ?_
  rintro v w140 ⟨rfl, h140⟩
  repeat (first | refine kN_at ?_ | refine kB_at ?_ | refine kfld_of ?_ | refine kext_at rfl ?_ | refine kG_of (by first | exact rfl | omega) ?_ | refine klen_at ?_ | refine eql_at ?_ | refine neq_at ?_ | refine lss_at ?_ | refine leq_at ?_ | refine gtr_at ?_ | refine geq_at ?_ | refine add_at (by omega) (by omega) ?_ | refine sub_at (by omega) (by omega) ?_ | refine not_at ?_ | refine kO_at ?_ | refine kprt_at rfl ?_ | refine kprtN_at rfl ?_ | refine kcap_at ?_ | refine klenStr_at ?_ | refine kN_iat ?_ | refine kN_fat ?_ | refine kIf_T (by first | exact rfl | exact decT (by omega) | exact notT (decF (by omega))) ?_ | refine kIf_F (by first | exact rfl | exact decF (by omega) | exact notF (decT (by omega))) ?_)
  rw [keq_nil_nil ifErr]
  refine kB_at ?_
  refine kIf_T rfl ?_
  rw [keq_nil_nil ifErr]
  refine kB_at ?_
  refine kIf_T rfl ?_
  have C140 := (C.loc h134).loc h140
  refine kixld_of (F := msk) (l := L) (hs0.same C140.same) hkL rfl ?_
  rw [hpk, partsL_mask hm]
  rw [msk, msk, kint_and, show (255 : Int) = ((255 : Nat) : Int) from rfl, u32_and hxk (by omega)]
  refine eql_at ?_
  rw [decT rfl]
  refine kB_at ?_
  refine kIf_T rfl ?_
  refine kixld_of (F := msk) (l := L) (hs0.same C140.same) hkL rfl ?_
  rw [msk, kint_and, u32_and hxk (by omega)]
  rw [hpk] at hOv
  generalize L[k] &&& 255 = m at *
  rw [kint_mul, show IntKind.i64.wrap (100 * (k : Int)) = ((100 * k : Nat) : Int) by rw [wrap_i64 (by omega) (by omega)]; omega]
  refine kcall_of (parts_spec m (100 * k) (by omega) w140) ?_
  rintro v w159 ⟨hOp, h159, hfp⟩
  have hOv159 := (hOv.same h140).same h159
  obtain ⟨va, vn, vc, rfl, hvs, _⟩ := hOv159.is
  obtain ⟨ua, un, uc, rfl, hus, _⟩ := hOp.is
  have hvn : vn = (partsL m (100 * k) 8).length := by
    have := hvs.1
    rw [flat_len Part.cells 6 (fun _ => rfl)] at this
    omega
  have hun : un = (partsL m (100 * k) 8).length := by
    have := hus.1
    rw [flat_len Part.cells 6 (fun _ => rfl)] at this
    omega
  subst hvn hun
  have hpl := partsL_len m (100 * k) 8
  refine kcall_of (same_spec (L := partsL m (100 * k) 8) (partsL_ok (by omega) (by omega)) (by omega) hvs hus) ?_
  rintro v w161 ⟨rfl, h161⟩
  exact ⟨rfl, (C140.same.trans h159).trans h161⟩
end Go.Proofs.YtlkpadfkmdgjcaaGreatDoor
end
section
set_option linter.unusedSimpArgs false
set_option linter.unusedVariables false
namespace Go.Proofs.YtlkpadfkmdgjcaaGreatDoor
open Go Go.Ev
set_option linter.unusedVariables false
set_option linter.unusedSimpArgs false
set_option maxRecDepth 100000
attribute [local irreducible] kO kB kStr kInt kN kG kIf kfld kld kldN kst knew kmap kbld kbldS kext kcnv klenStr klen kcap kprt kprtN kbool kint kstr keq kun ksl kix kiv kta kmk kmm ksem ksemU kextf kcallV kcallM kcall kL

theorem idxN (n : Int) {l : Nat} (h0 : 0 < l) (h : l ≤ 1000000) : IntKind.u64.wrap (l : Int) = (l : Int) ∧ ∃ c : Nat, c < l ∧ IntKind.i64.wrap ((IntKind.u64.wrap n).tmod (l : Int)) = (c : Int) := by
  have hz : 0 ≤ IntKind.u64.wrap n := by
    simp [IntKind.wrap, IntKind.signed, IntKind.bits]
    omega
  refine ⟨wrap_u64 (by omega) (by omega), ((IntKind.u64.wrap n).tmod (l : Int)).toNat, ?_, ?_⟩
  · rw [Int.tmod_eq_emod_of_nonneg hz]
    have h1 := Int.emod_lt_of_pos (IntKind.u64.wrap n) (show (0 : Int) < l by omega)
    have h2 := Int.emod_nonneg (IntKind.u64.wrap n) (show (l : Int) ≠ 0 by omega)
    omega
  · rw [Int.tmod_eq_emod_of_nonneg hz]
    have h1 := Int.emod_lt_of_pos (IntKind.u64.wrap n) (show (0 : Int) < l by omega)
    have h2 := Int.emod_nonneg (IntKind.u64.wrap n) (show (l : Int) ≠ 0 by omega)
    rw [wrap_i64 (by omega) (by omega)]
    omega
/-- What holds behind j spawns. -/
def ApI (w0 : World) (b : Nat) (L : List Nat) (j : Nat) (x y : Value) (w : World) : Prop :=
  y = .int .i64 j ∧ ∃ o p S, Cur w0 o w b p S j ∧ S.cs = wideC ∧ S.free.reverse = List.range' j (64 - j) ∧ S.gens.length = 64 ∧ (∀ i, S.gens[i]? = if i < j then some (1, true) else if i < 64 then some (0, false) else none) ∧ (∀ i, i < j → partsOf S i = partsL ((L[i]?).getD 0 &&& 255) (100 * i) 8) ∧
    Own w x 2 ((entL j).flatMap entC) ∧ ∀ k, vblk x k → w0.heap.size ≤ k ∧ o k = none
theorem setAll_full {vs : List Value} {c : Array Value} (h : vs.length = c.size) : setAll vs c 0 = vs.toArray := by
  apply Array.ext'
  rw [setAll_list vs c 0 (by omega)]
  simp [h]
theorem act_len (a : ActM) : a.cells.length = 16 := rfl
theorem act_one (a : ActM) : oneCells a.cells = true := rfl
theorem act_cells (a : ActM) : (Value.agg a.cells.toArray).cells.toList = a.cells := rfl
theorem ap_two {pr : Nat → Prop} {Sa : Nat → Addr} {w w1 : World} (hD : DeAt w) (hL : LaidP pr Sa w) (h7 : pr 7) (h9 : pr 9) (h17 : pr 17) {a0 : Option Addr} {L : List Nat} {c0 : Nat} (hs0 : SlIs w a0 L.length 1 (L.map msk)) (hL32 : ∀ x ∈ L, x < 4294967296) (who : Int)
    {a1 : Option Addr} {A : List ActM} {c1 : Nat} (hs1 : SlIs w a1 A.length 16 (A.flatMap ActM.cells)) (hz : ¬ L.length = 0) (hbig : ¬ 60 < L.length) {b : Nat} {o : Lab} {p : Ptrs} {S : SM} (C : Cur w o w1 b p S L.length) (hcs : S.cs = wideC) (hgn : ∀ i, i < L.length → S.gens[i]? = some (1, true))
    (hpm : ∀ i, i < L.length → partsOf S i = partsL ((L[i]?).getD 0 &&& 255) (100 * i) 8) {xa : Option Addr} {xc : Nat} (hO : Own w1 (.slice xa (entL L.length).length xc) 2 ((entL L.length).flatMap entC)) (hOl : ∀ k, vblk (.slice xa (entL L.length).length xc) k → o k = none) :
    f6_7 (.slice a0 L.length c0) (.int .i64 who) (.slice a1 A.length c1) (.pointer (some ⟨b, 0, none⟩)) (.slice xa (entL L.length).length xc) (fun v w' => v = .bool true ∧ Same w w') w1 := by
  have hgn' : ∀ i, i < L.length → ∃ al, S.gens[i]? = some (1, al) := fun i hi => ⟨true, hgn i hi⟩
  have el := entL_len L.length
  obtain ⟨ew0, k, hk, ek⟩ := idxN who (l := L.length) (by omega) (by omega)
  have ew : IntKind.u64.wrap (((entL L.length).length : Nat) : Int) = (L.length : Int) := by rw [el]; exact ew0
  unfold f6_7
  rw [kcnv_int]
  refine klen_at ?_
  rw [kcnv_int, ew, kint_rem]
  refine kG_of (by omega) ?_
  rw [kcnv_int, ek]
  refine kL1_of 150 (ApJ w b L.length k ((L[k]?).getD 0 &&& 255) (100 * k) (.slice xa (entL L.length).length xc)) ⟨lI1_0 ⟨rfl, o, p, S, C, hcs, hgn', hgn k hk, hpm k hk, hO, hOl⟩, fun y w1 hx => ?_⟩
  obtain ⟨j, hj, ⟨rfl, o2, p2, S2, C2, hcs2, hg2, hk2, hpk2, hO2, hOl2⟩, hJ⟩ := lI1_step hx
  have last : f6_13 (.slice a0 L.length c0) (.pointer (some ⟨b, 0, none⟩)) (.slice xa (entL L.length).length xc) (.int .i64 k) (fun v w' => v = .bool true ∧ Same w w') w1 :=
    ap_end (by omega) C2 hk2 hk rfl hpk2 hO2 hs0 hL32
  unfold f6_8
  refine klen_at ?_
  refine lss_at ?_
  refine kB_at ?_
  refine kIf_dec (fun hlt => ?_) (fun hge => ?_)
  · have hltA : j < A.length := by omega
    refine lss_at ?_
    by_cases h150 : j < 150
    · rw [decT (by omega)]
      unfold f6_9
      refine kB_at ?_
      refine kIf_T rfl ?_
      unfold f6_10
      refine kixldN_of (F := ActM.cells) (sz := 16) (fun _ => rfl) (by omega) (hs1.same C2.same) hltA rfl ?_
      generalize A[j] = act at *
      refine knew_of fun w66 h66 hs66 hb66 => ?_
      refine kst_of (vs := act.cells) hb66 (act_cells act) (act_len act) (act_one act) (by show 0 + 16 ≤ 16; omega) (by simp [ActM.cells]) fun w67 h67 hs67 hb67 => ?_
      rw [setAll_full (by rw [act_len]; rfl)] at hb67
      have m67 : Same w1 w67 := h66.trans' (h67.mono fun k _ e => .inr (by omega))
      have C67 := C2.loc m67
      obtain ⟨_, i, hi, ei⟩ := idxN act.n (l := L.length) (by omega) (by omega)
      refine kfld_of ?_
      refine kld_of (v := .int .i64 act.n) hb67 rfl ?_
      rw [kcnv_int]
      refine klen_at ?_
      rw [kcnv_int, ew, kint_rem]
      refine kG_of (by omega) ?_
      rw [kcnv_int, ei]
      refine eql_at ?_
      refine kB_at ?_
      refine kIf_dec (fun hik => ?_) (fun hik => ?_)
      · unfold f6_11
        repeat (first | refine kN_at ?_ | refine kB_at ?_ | refine kfld_of ?_ | refine kext_at rfl ?_ | refine kG_of (by first | exact rfl | omega) ?_ | refine klen_at ?_ | refine eql_at ?_ | refine neq_at ?_ | refine lss_at ?_ | refine leq_at ?_ | refine gtr_at ?_ | refine geq_at ?_ | refine add_at (by omega) (by omega) ?_ | refine sub_at (by omega) (by omega) ?_ | refine not_at ?_ | refine kO_at ?_ | refine kprt_at rfl ?_ | refine kprtN_at rfl ?_ | refine kcap_at ?_ | refine klenStr_at ?_ | refine kN_iat ?_ | refine kN_fat ?_ | refine kIf_T (by first | exact rfl | exact decT (by omega) | exact notT (decF (by omega))) ?_ | refine kIf_F (by first | exact rfl | exact decF (by omega) | exact notF (decT (by omega))) ?_)
        rw [cast_succ]
        refine hJ _ _ h150 ⟨rfl, o2, p2, S2, ⟨C67.sp, C67.gs.succ, C67.lo, C67.hi, C67.same⟩, hcs2, hg2, hk2, hpk2, hO2.same m67, hOl2⟩
      · refine ap_act hD hL h7 h9 h17 (by omega) h150 C67 hcs2 hg2 hk2 hpk2 (hO2.same m67) hOl2 hi (by omega) hb67 _ _ _ (fun w' hw' => hJ _ _ h150 hw') _
    · rw [decF (by omega)]
      unfold f6_9
      refine kB_at ?_
      refine kIf_F rfl ?_
      exact last
  · unfold f6_9
    refine kB_at ?_
    refine kIf_F rfl ?_
    exact last
theorem apart_spec {pr : Nat → Prop} {Sa : Nat → Addr} {w : World} (hD : DeAt w) (hL : LaidP pr Sa w) (h7 : pr 7) (h9 : pr 9) (h17 : pr 17) {a0 : Option Addr} {L : List Nat} {c0 : Nat} (hs0 : SlIs w a0 L.length 1 (L.map msk)) (hL32 : ∀ x ∈ L, x < 4294967296) (who : Int)
    {a1 : Option Addr} {A : List ActM} {c1 : Nat} (hs1 : SlIs w a1 A.length 16 (A.flatMap ActM.cells)) :
    Meets Tryz.prog 6 #[.slice a0 L.length c0, .int .i64 who, .slice a1 A.length c1] w fun v w' => v = .bool true ∧ Same w w' := by
  have hDlt := hD.lt
  refine f6_ok ?_
  unfold f6
  refine kcall_of (awake_spec hD hL h7) ?_
  rintro v w2 ⟨rfl, h2⟩
  refine not_at ?_
  refine kB_at ?_
  refine kIf_F rfl ?_
  unfold f6_0
  refine kcall_of (wide_spec w2) ?_
  rintro v w5 ⟨a5, c5, rfl, hs5, h5⟩
  have m5 := h2.trans h5
  refine kcall_of (sNew_spec (hD.same m5) hs5 wide_good (most := 64) (by omega)) ?_
  rintro v w7 ⟨b, rfl, o, p, hP7, hlo7, hhi7, h7w⟩
  have hsz5 := m5.size
  have C7 : Cur w o w7 b p (newS wideC 64) 0 := ⟨hP7, newS_gs (by omega), fun k hk => hlo7 k (by omega), hhi7, m5.trans h7w⟩
  rw [ptrV]
  repeat (first | refine kN_at ?_ | refine kB_at ?_ | refine kfld_of ?_ | refine kext_at rfl ?_ | refine kG_of (by first | exact rfl | omega) ?_ | refine klen_at ?_ | refine eql_at ?_ | refine neq_at ?_ | refine lss_at ?_ | refine leq_at ?_ | refine gtr_at ?_ | refine geq_at ?_ | refine add_at (by omega) (by omega) ?_ | refine sub_at (by omega) (by omega) ?_ | refine not_at ?_ | refine kO_at ?_ | refine kprt_at rfl ?_ | refine kprtN_at rfl ?_ | refine kcap_at ?_ | refine klenStr_at ?_ | refine kN_iat ?_ | refine kN_fat ?_ | refine kIf_T (by first | exact rfl | exact decT (by omega) | exact notT (decF (by omega))) ?_ | refine kIf_F (by first | exact rfl | exact decF (by omega) | exact notF (decT (by omega))) ?_)
  rw [keq_ptr_nil ptSto]
  refine kB_at ?_
  refine kIf_T rfl ?_
  rw [keq_nil_nil' ifErr]
  refine kB_at ?_
  refine kIf_T rfl ?_
  refine klen_at ?_
  refine eql_at ?_
  refine kB_at ?_
  have early : f6_1 (.slice a0 L.length c0) (.int .i64 who) (.slice a1 A.length c1) (.pointer (some ⟨b, 0, none⟩)) .nilIface (.bool true) (fun v w' => v = .bool true ∧ Same w w') w7 := by
    unfold f6_1
    refine kB_at ?_
    refine kIf_T rfl ?_
    rw [keq_nil_nil ifErr]
    exact ⟨rfl, C7.same⟩
  by_cases hz : L.length = 0
  · rw [decT (by omega)]
    refine kIf_F rfl ?_
    exact early
  rw [decF (by omega)]
  refine kIf_T rfl ?_
  refine klen_at ?_
  refine gtr_at ?_
  by_cases hbig : 60 < L.length
  · rw [decT (by omega)]
    exact early
  rw [decF (by omega)]
  clear early
  unfold f6_1
  refine kB_at ?_
  refine kIf_F rfl ?_
  unfold f6_2
  refine kbldS_of (cs := []) rfl fun w26 h26 hs26 hb26 => ?_
  have hO26 : Own w26 (.slice (some ⟨w7.heap.size, 0, none⟩) 0 0) 2 ((entL 0).flatMap entC) := Own.blk hb26 (n := 0) (by simp) (by simp [maxLen])
  have hz7 := C7.same.size
  refine kL2_of L.length (ApI w b L) ⟨lI2_0 ?_, fun x y wr hx => ?_⟩
  · refine ⟨rfl, o, p, _, C7.loc h26, rfl, ?_, List.length_replicate, fun i => ?_, fun i hi => by omega, hO26, fun k hk => ?_⟩
    · show (List.range 64).reverse.reverse = List.range' 0 64
      rw [List.reverse_reverse, List.range_eq_range']
    · show (List.replicate 64 ((0 : Int), false))[i]? = _
      rw [if_neg (by omega), List.getElem?_replicate]
    · rw [vblk_new hk]
      exact ⟨by omega, C7.hi _ (Nat.le_refl _)⟩
  obtain ⟨j, hj, ⟨rfl, o, p, S, C, hcs, hfr, hgl, hgn, hpm, hO, hOl⟩, hJ⟩ := lI2_step hx
  unfold f6_3
  refine klen_at ?_
  refine lss_at ?_
  refine kB_at ?_
  refine kIf_dec (fun hlt => ?_) (fun hge => ?_)
  · have hlt : j < L.length := by omega
    have hxj := hL32 _ (List.getElem_mem hlt)
    have hgj : (L[j]?).getD 0 = L[j] := by rw [List.getElem?_eq_getElem hlt]; rfl
    have hm := msk_lt255 L[j]
    unfold f6_4
    refine kixld_of (F := msk) (l := L) (hs0.same C.same) hlt rfl ?_
    rw [msk, kint_and, show (255 : Int) = ((255 : Nat) : Int) from rfl, u32_and hxj (by omega)]
    generalize hme : L[j] &&& 255 = m at *
    rw [kint_mul, show IntKind.i64.wrap (100 * (j : Int)) = ((100 * j : Nat) : Int) by rw [wrap_i64 (by omega) (by omega)]; omega]
    refine kcall_of (parts_spec m (100 * j) (by omega) wr) ?_
    rintro v w23 ⟨hO23, h23, hfv⟩
    have C23 := C.loc h23
    obtain ⟨a', n', c', rfl, hsl, _⟩ := hO23.is
    have hn' : n' = (partsL m (100 * j) 8).length := by
      have := hsl.1
      rw [flat_len Part.cells 6 (fun _ => rfl)] at this
      omega
    subst hn'
    have hne : S.free ≠ [] := fun e => by
      rw [e] at hfr
      have := congrArg List.length hfr
      simp at this; omega
    refine kcall_of (spawn_at (L := partsL m (100 * j) 8) (hD.same C23.same) C23.sp (C23.lo _ hDlt) C23.gs (by omega) hne hsl (fun k f e => C.hi k (hfv k ⟨f, _, _, by rw [e]⟩)) (by have := partsL_len m (100 * j) 8; omega) (by rw [hcs]; exact partsL_fits) (partsL_nt hm)) ?_
    rintro v w25 ⟨i, g0, L1, S1, hi1, hg1, rfl, hp1, hs1', hG1, B1, T1⟩
    have hfr' : List.range' j (64 - j) = j :: List.range' (j + 1) (64 - (j + 1)) := by
      rw [show 64 - j = (64 - (j + 1)) + 1 by omega, List.range'_succ]
    have ei : i = j := by
      rw [← List.head?_reverse, hfr, hfr'] at hi1
      exact (Option.some.inj hi1).symm
    subst ei
    have eg : g0 = 0 := by
      rw [hgn i, if_neg (by omega), if_pos (by omega)] at hg1
      cases hg1; rfl
    subst eg
    obtain ⟨o25, p25, C25, hk25, hm25⟩ := C23.turnN T1 hG1
    have hO25 := (hO.same h23).mod hm25 fun k hk hne => hne (hOl k hk).2
    repeat (first | refine kN_at ?_ | refine kB_at ?_ | refine kfld_of ?_ | refine kext_at rfl ?_ | refine kG_of (by first | exact rfl | omega) ?_ | refine klen_at ?_ | refine eql_at ?_ | refine neq_at ?_ | refine lss_at ?_ | refine leq_at ?_ | refine gtr_at ?_ | refine geq_at ?_ | refine add_at (by omega) (by omega) ?_ | refine sub_at (by omega) (by omega) ?_ | refine not_at ?_ | refine kO_at ?_ | refine kprt_at rfl ?_ | refine kprtN_at rfl ?_ | refine kcap_at ?_ | refine klenStr_at ?_ | refine kN_iat ?_ | refine kN_fat ?_ | refine kIf_T (by first | exact rfl | exact decT (by omega) | exact notT (decF (by omega))) ?_ | refine kIf_F (by first | exact rfl | exact decF (by omega) | exact notF (decT (by omega))) ?_)
    refine knew_of fun w29 h29 hs29 hb29 => ?_
    refine kst_of (vs := [.int .i64 i, .int .i64 1]) hb29 rfl rfl rfl (by simp) (by simp) fun w30 h30 hs30 hb30 => ?_
    have hb30 : blk w30 w25.heap.size = some (.cells #[.int .i64 i, .int .i64 1] 37) := hb30
    have m30 : Same w25 w30 := h29.trans' (h30.mono fun k _ e => .inr (by omega))
    rw [keq_nil_nil' ifErr]
    refine kB_at ?_
    refine kIf_F rfl ?_
    unfold f6_5
    refine kldN_at (cs := [.int .i64 i, .int .i64 1]) hb30 rfl (by omega) ?_
    refine kbldS_of (cs := [.int .i64 i, .int .i64 1]) rfl fun w35 h35 hs35 hb35 => ?_
    have m35 := m30.trans h35
    have hOe : Own w35 x 2 ((entL i).flatMap entC) := hO25.same m35
    have el := entL_len i
    refine ksem_append apEnt (by omega) hOe (Src.ofSlIs (hk := slEnt_is.choose_spec) 1 (SlIs.blk hb35 rfl) (ones_ent [((i : Int), (1 : Int))])) (by rw [flat_len entC 2 (fun _ => rfl)]; simp; omega) (by rw [flat_len entC 2 (fun _ => rfl)]; simp; omega) ?_
    intro v' w37 ho hm' hf'
    unfold f6_6
    repeat (first | refine kN_at ?_ | refine kB_at ?_ | refine kfld_of ?_ | refine kext_at rfl ?_ | refine kG_of (by first | exact rfl | omega) ?_ | refine klen_at ?_ | refine eql_at ?_ | refine neq_at ?_ | refine lss_at ?_ | refine leq_at ?_ | refine gtr_at ?_ | refine geq_at ?_ | refine add_at (by omega) (by omega) ?_ | refine sub_at (by omega) (by omega) ?_ | refine not_at ?_ | refine kO_at ?_ | refine kprt_at rfl ?_ | refine kprtN_at rfl ?_ | refine kcap_at ?_ | refine klenStr_at ?_ | refine kN_iat ?_ | refine kN_fat ?_ | refine kIf_T (by first | exact rfl | exact decT (by omega) | exact notT (decF (by omega))) ?_ | refine kIf_F (by first | exact rfl | exact decF (by omega) | exact notF (decT (by omega))) ?_)
    rw [cast_succ]
    have C35 := C25.loc m35
    have hk35 : ∀ k, vblk x k → w.heap.size ≤ k ∧ o25 k = none := fun k hk => ⟨(hOl k hk).1, hk25 k (by have := hO.vblk_lt hk; have := h23.size; omega) (hOl k hk).2⟩
    have C37 := C35.mod hm' (fun k hk => (hk35 k hk).2) (fun k hk => (hk35 k hk).1)
    refine hJ _ _ _ hlt ⟨rfl, o25, p25, S1, C37, B1.cs.trans hcs, ?_, by rw [B1.gens, List.length_set]; exact hgl, fun k => ?_, fun k hk => ?_, ?_, fun k hk => ?_⟩
    · rw [B1.free, ← List.tail_reverse, hfr, hfr']; rfl
    · rw [B1.gens, List.getElem?_set]
      by_cases hki : i = k
      · subst hki
        rw [if_pos rfl, if_pos (by omega), if_pos (by omega)]; rfl
      · rw [if_neg hki, hgn k]
        by_cases h1 : k < i
        · rw [if_pos h1, if_pos (by omega)]
        · have h2 : ¬ k < i + 1 := by omega
          rw [if_neg h1, if_neg h2]
    · by_cases hki : k = i
      · subst hki
        rw [B1.parts, hgj, hme]
        exact partsL_of hm hp1 hs1'
      · rw [B1.others k 1 hki (by rw [hgn k, if_pos (by omega)])]
        exact hpm k (by omega)
    · rw [entL_succ, List.flatMap_append]
      simpa [entC, nV] using ho
    · rcases hf' k hk with h | h
      · exact hk35 k h
      · have := C35.same.size
        exact ⟨by omega, C35.hi k h⟩
  · have : j = L.length := by omega
    subst this
    clear hJ hx
    obtain ⟨xa, xn, xc, rfl, hxs, _⟩ := hO.is
    have el := entL_len L.length
    have hxn : xn = (entL L.length).length := by
      have := hxs.1
      rw [flat_len entC 2 (fun _ => rfl)] at this
      omega
    subst hxn
    exact ap_two hD hL h7 h9 h17 hs0 hL32 who hs1 hz hbig C hcs (fun i hi => by rw [hgn i, if_pos hi]) hpm hO fun k' hk' => (hOl k' hk').2
end Go.Proofs.YtlkpadfkmdgjcaaGreatDoor
end
section
set_option linter.unusedSimpArgs false
set_option linter.unusedVariables false
namespace Go.Proofs.YtlkpadfkmdgjcaaGreatDoor
open Go Go.Ev Go.RowKit Go.ChangeShapes Go.WideShapes Go.ChangeAt
set_option linter.unusedVariables false
set_option maxRecDepth 100000
namespace ST
theorem i64_of {n : Int} (h : (Lit.int .i64 n).wf = true) : I64 n := i64_wf h
theorem c3 : Tryz.prog.cellsOf 3 = 1 := by kernel_rfl
theorem cArr4 : Tryz.prog.cellsOf 47 = 4 := by kernel_rfl
theorem cPart : Tryz.prog.cellsOf 49 = 6 := by kernel_rfl
theorem cEnt : Tryz.prog.cellsOf 37 = 2 := by kernel_rfl
theorem cAct : Tryz.prog.cellsOf 66 = 16 := by kernel_rfl
theorem cSlP : Tryz.prog.cellsOf 40 = 1 := by kernel_rfl
theorem four_of {w : World} {n : Nat} {a b c d : Value} (h : Rd Tryz.prog w (n + 2) 47 [a, b, c, d]) : ∃ x y z u : Int, I64 x ∧ I64 y ∧ I64 z ∧ I64 u ∧ a = .int .i64 x ∧ b = .int .i64 y ∧ c = .int .i64 z ∧ d = .int .i64 u := by
  obtain ⟨_, h⟩ := rd_array Tryz.underlying47 h
  simp only [c3] at h
  obtain ⟨t0, f0, g0⟩ := rd_int Tryz.underlying3 (h 0 (by decide))
  obtain ⟨t1, f1, g1⟩ := rd_int Tryz.underlying3 (h 1 (by decide))
  obtain ⟨t2, f2, g2⟩ := rd_int Tryz.underlying3 (h 2 (by decide))
  obtain ⟨t3, f3, g3⟩ := rd_int Tryz.underlying3 (h 3 (by decide))
  simp at f0 f1 f2 f3
  exact ⟨t0, t1, t2, t3, i64_of g0, i64_of g1, i64_of g2, i64_of g3, f0, f1, f2, f3⟩
theorem part_of {w : World} {n : Nat} {cs : List Value} (h : Rd Tryz.prog w (n + 3) 49 cs) : ∃ x : Part, x.ok ∧ x.cells = cs := by
  obtain ⟨hl, hf⟩ := rd_struct Tryz.underlying49 h
  rw [cPart] at hl
  match cs, hl with
  | [a, d0, d1, d2, d3, b], _ =>
    simp only [RdF] at hf
    obtain ⟨h0, h1, h2, _⟩ := hf
    simp only [c3, cArr4] at h0 h1 h2
    obtain ⟨s, e0, g0⟩ := rd_int Tryz.underlying3 h0
    obtain ⟨x0, x1, x2, x3, k0, k1, k2, k3, f0, f1, f2, f3⟩ := four_of h1
    obtain ⟨i, e1, g1⟩ := rd_int Tryz.underlying3 h2
    simp at e0 e1
    subst e0 e1 f0 f1 f2 f3
    exact ⟨⟨s, x0, x1, x2, x3, i⟩, ⟨i64_of g0, k0, k1, k2, k3, i64_of g1⟩, rfl⟩
theorem ent_of {w : World} {n : Nat} {cs : List Value} (h : Rd Tryz.prog w (n + 2) 37 cs) : ∃ x y : Int, cs = [.int .i64 x, .int .i64 y] := by
  obtain ⟨hl, hf⟩ := rd_struct Tryz.underlying37 h
  rw [cEnt] at hl
  match cs, hl with
  | [a, b], _ =>
    simp only [RdF] at hf
    obtain ⟨h0, h1, _⟩ := hf
    simp only [c3] at h0 h1
    obtain ⟨s, e0, g0⟩ := rd_int Tryz.underlying3 h0
    obtain ⟨i, e1, g1⟩ := rd_int Tryz.underlying3 h1
    simp at e0 e1
    subst e0 e1
    exact ⟨s, i, rfl⟩
/-- An act, read. -/
theorem act_of {w : World} {n : Nat} {cs : List Value} (h : Rd Tryz.prog w (n + 5) 66 cs) : ∃ x : ActM, True ∧ x.cells = cs := by
  obtain ⟨hl, hf⟩ := rd_struct Tryz.underlying66 h
  rw [cAct] at hl
  match cs, hl with
  | [a0, a1, a2, a3, a4, a5, a6, a7, a8, a9, a10, a11, a12, a13, a14, a15], _ =>
    simp only [RdF] at hf
    obtain ⟨h0, h1, h2, h3, h4, h5, h6, h7, h8, h9, _⟩ := hf
    simp only [c3, cEnt, cPart, cSlP, cMask] at h0 h1 h2 h3 h4 h5 h6 h7 h8 h9
    obtain ⟨i0, e0, _⟩ := rd_int Tryz.underlying3 h0
    obtain ⟨i1, e1, _⟩ := rd_int Tryz.underlying3 h1
    obtain ⟨x, y, e2⟩ := ent_of h2
    have e3 := rd_slice Tryz.underlying40 h3
    obtain ⟨q, _, e4⟩ := part_of h4
    obtain ⟨i5, e5, _⟩ := rd_int Tryz.underlying3 h5
    obtain ⟨i6, e6, _⟩ := rd_int Tryz.underlying3 h6
    obtain ⟨i7, e7, _⟩ := rd_int Tryz.underlying3 h7
    obtain ⟨i8, e8, _⟩ := rd_int Tryz.underlying24 h8
    obtain ⟨i9, e9, _⟩ := rd_int Tryz.underlying24 h9
    have e3 : ∃ (sa : Option Addr) (sn sc : Nat), a4 = .slice sa sn sc := by
      rcases e3 with e | ⟨a, l, c, e, _⟩
      · exact ⟨none, 0, 0, by simpa using e⟩
      · exact ⟨some a, l, c, by simpa using e⟩
    obtain ⟨sa, sn, sc, rfl⟩ := e3
    simp [Part.cells] at e0 e1 e2 e4 e5 e6 e7 e8 e9
    obtain ⟨rfl, rfl⟩ := e2
    obtain ⟨rfl, rfl, rfl, rfl, rfl, rfl⟩ := e4
    subst e0 e1 e5 e6 e7 e8 e9
    exact ⟨⟨i0, i1, x, y, sa, sn, sc, q, i5, i6, i7, i8, i9⟩, trivial, rfl⟩
theorem acts_of {W : World} {cs : List Value} (h : Rd Tryz.prog W 9 64 cs) : ∃ (a : Option Addr) (l : List ActM) (c : Nat), cs = [.slice a l.length c] ∧ SlIs W a l.length 16 (l.flatMap ActM.cells) := by
  obtain ⟨a, l, c, e, h1, _, _, h2⟩ := slIs_of_rd (F := ActM.cells) (sz := 16) (ok := fun _ => True) (fun _ => rfl) (by omega) Tryz.underlying64 cAct (fun ec h => act_of h) h
  exact ⟨a, l, c, e, h2⟩
theorem flat_msk : ∀ l : List Nat, l.flatMap (fun n : Nat => [msk n]) = l.map msk
  | [] => rfl
  | x :: l => by rw [List.flatMap_cons, List.map_cons, flat_msk l]; rfl
theorem masks_of {W : World} {cs : List Value} (h : Rd Tryz.prog W 3 22 cs) : ∃ (a : Option Addr) (l : List Nat) (c : Nat), cs = [.slice a l.length c] ∧ (∀ x ∈ l, x < 4294967296) ∧ SlIs W a l.length 1 (l.map msk) := by
  obtain ⟨a, l, c, e, h1, _, _, h2⟩ := slIs_of_rd (F := fun n : Nat => [msk n]) (sz := 1) (ok := fun n => n < 4294967296) (fun _ => rfl) (by omega) Tryz.underlying22 cMask (fun ec h => by
    obtain ⟨i, rfl, hw⟩ := rd_int Tryz.underlying24 h
    obtain ⟨h0, h1⟩ := u32_wf hw
    refine ⟨i.toNat, by omega, ?_⟩
    show [Value.int .u32 (i.toNat : Int)] = _
    rw [Int.toNat_of_nonneg h0]) h
  rw [flat_msk l] at h2
  exact ⟨a, l, c, e, h1, h2⟩
/-- The door's own heap meets the condition. -/
theorem door_met (os : Os) (args : Array Value) : laidMetH Tryz.prog Rows.storeApartRow.laid ((World.doorLaid Tryz.prog 366 os).forCall (fun _ _ => 0) ⟨#[], args, []⟩).memory :=
  laidMetH_of_parts3 (fuel := 8) (laidMet_of_run' 8 (by kernel_rfl) (by kernel_rfl)) (by kernel_rfl) (by kernel_rfl)
theorem lifted (os : Os) (started : os.Started) (H : Type) (enc : TypeId × Value → H) :
    ReturnsInHanded {} Tryz.checked os 6 .any (fun w args => (Rows.storeApartSpec.pre enc Tryz.prog Tryz.f6 [] false w args ∧ laidMetH Tryz.prog Rows.storeApartRow.laid w) ∧ sizedMet enc Tryz.prog Tryz.f6 (OpenSpec.ofChange Rows.storeApartSpec) false w args)
      (Rows.storeApartSpec.post enc Tryz.prog Tryz.f6 false true false false) := by
  refine returnsInHanded_of_change_and (C := Tryz.checked) (X := fun w _ => laidMetH Tryz.prog Rows.storeApartRow.laid w) (fun _ _ _ hh h => h.of_heap hh) own started (by kernel_rfl) Tryz.func6
    (ChangeSpec.witness_shaped (enc := enc) (C := Tryz.checked) (os := os) (X := fun w _ => laidMetH Tryz.prog Rows.storeApartRow.laid w) false (World.doorLaid Tryz.prog 366 os) #[.slice none 0 0, .int .i64 0, .slice none 0 0] 8 rfl (World.shaped_of_RefB (by kernel_rfl) (by kernel_rfl)) (by kernel_rfl) (by kernel_rfl) (by kernel_rfl) (door_met os _)) ?_
  intro W base args ds gs before hval0 hW _ _ hL _
  have hval : ∀ (j : Nat) t v, Tryz.f6.params[j]? = some t → args[j]? = some v → Value.okWide Tryz.prog W .any base t v := hval0
  have hW' := hW
  obtain ⟨p, q, hA0, hV, rfl, hfz, hnd⟩ := hW
  have hA : DataW.TrodAll enc Tryz.prog W 0 (fun _ => true) true Tryz.f6.params.toList args.toList ds p := hA0
  rw [Tryz.params6] at hA hval
  obtain ⟨v0, vs0, d0, ds0, p0, q0, hargs, rfl, rfl, h0, r0⟩ := trodAll_cons hA
  obtain ⟨v1, vs1, d1, ds1, p1, q1, rfl, rfl, rfl, h1, r1⟩ := trodAll_cons r0
  obtain ⟨v2, vs2, d2, ds2, p2, q2, rfl, rfl, rfl, h2, r2⟩ := trodAll_cons r1
  obtain ⟨rfl, rfl, rfl⟩ := trodAll_nil r2
  obtain rfl : args = #[v0, v1, v2] := by cases args; simp_all
  obtain ⟨rfl, rfl⟩ := trodVars_none hV
  have hlt : ∀ x ∈ p0 ++ (p1 ++ (p2 ++ [])) ++ [], x.block < W.heap.size := fun x hx => hW'.lt x hx
  obtain ⟨a3, n3, c3', e3⟩ := okWide_slice Tryz.underlying22 (hval 0 22 v0 rfl rfl)
  obtain ⟨sa, l, cp, ep, hl, hsp⟩ := masks_of (rd_of_Trod h0 3)
  obtain rfl : v0 = .slice sa l.length cp := by
    subst e3
    simpa [Value.cells] using ep
  obtain ⟨x, rfl, rfl, rfl, w1⟩ := open_int Tryz.underlying3 (hval 1 3 v1 rfl rfl) h1
  obtain ⟨a4, n4, c4', e4⟩ := okWide_slice Tryz.underlying64 (hval 2 64 v2 rfl rfl)
  obtain ⟨ta, la, ca, ea, hap⟩ := acts_of (rd_of_Trod h2 9)
  obtain rfl : v2 = .slice ta la.length ca := by
    subst e4
    simpa [Value.cells] using ea
  obtain ⟨⟨S, hS⟩, hD⟩ := laid_of hL
  have hmet := apart_spec hD hS (by decide) (by decide) (by decide) (c0 := cp) hsp hl x (c1 := ca) hap
  refine hmet.2.mono fun e W' he => ?_
  obtain ⟨v, rfl, rfl, hsame⟩ := he
  have bel := hsame.below
  exact ⟨_, rfl, _, _, _, [], _, [], hW', trodAll_mk1 (shut_bool Tryz.underlying4 _),
    trodAll_cons_mk (Below.trod laidOut (by kernel_rfl) (of_decide_eq_true (by kernel_rfl)) h0 bel fun x hx => hlt x (by simp [hx]))
      (trodAll_cons_mk (shut_int Tryz.underlying3 w1) (trodAll_cons_mk (Below.trod laidOut (by kernel_rfl) (of_decide_eq_true (by kernel_rfl)) h2 bel fun x hx => hlt x (by simp [hx])) trodAll_mk0)), rfl, bel.frame _, fun h => by cases h⟩
end ST
end Go.Proofs.YtlkpadfkmdgjcaaGreatDoor
end
