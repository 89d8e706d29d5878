/-
Lemmas for the statements of this seat: no statement of the seat is proved in this part (6 of 6); the conditions stand in each theorem.
-/
import Derived.Test.YtlkpadfkmdgjcaaGreatDoorStore5
section
set_option linter.unusedSimpArgs false
set_option linter.unusedVariables false
namespace Go.Proofs.YtlkpadfkmdgjcaaGreatDoor
open Go Go.Ev
set_option linter.unusedVariables false
set_option linter.unusedSimpArgs false
set_option maxRecDepth 100000
attribute [local irreducible] kO kB kStr kInt kN kG kIf kfld kld kldN kst knew kmap kbld kbldS kext kcnv klenStr klen kcap kprt kprtN kbool kint kstr keq kun ksl kix kiv kta kmk kmm ksem ksemU kextf kcallV kcallM kcall kL

def pa (c v : Int) : Part := ⟨c, v, 0, 0, 0, 0⟩
theorem fits_two {c : Nat} (hc : c < 2) (v : Int) : FitsP twoC (pa c v) := by
  refine ⟨c, rfl, hc, ?_⟩
  have : c = 0 ∨ c = 1 := by omega
  rcases this with rfl | rfl
  · intro x hx
    have : x ∈ [(0 : Int), 0, 0] := hx
    simpa using this
  · intro x hx
    have : x ∈ [(0 : Int), 0] := hx
    simpa using this
def l1 : List Part := [pa 1 0, pa 0 5]
def l2 : List Part := [pa 0 0, pa 1 0]
theorem l1_fits : ∀ q ∈ l1, FitsP twoC q := by
  intro q hq
  simp only [l1, List.mem_cons, List.not_mem_nil, or_false] at hq
  rcases hq with rfl | rfl
  · exact fits_two (c := 1) (by omega) 0
  · exact fits_two (c := 0) (by omega) 5
theorem l2_fits : ∀ q ∈ l2, FitsP twoC q := by
  intro q hq
  simp only [l2, List.mem_cons, List.not_mem_nil, or_false] at hq
  rcases hq with rfl | rfl
  · exact fits_two (c := 0) (by omega) 0
  · exact fits_two (c := 1) (by omega) 0
theorem mask_l1 : maskP l1 = 3 := by decide
theorem mask_l2 : maskP l2 = 3 := by decide
theorem nt_l1 : NoTwice l1 := by unfold NoTwice; decide
theorem nt_l2 : NoTwice l2 := by unfold NoTwice; decide
theorem awake_spec {pr : Nat → Prop} {Sa : Nat → Addr} {w : World} (hD : DeAt w) (hL : LaidP pr Sa w) (h7 : pr 7) : Meets Tryz.prog 11 #[] w fun v w' => v = .bool true ∧ Same w w' := by
  have hDlt := hD.lt
  refine f11_ok ?_
  unfold f11
  refine kcall_of (two_spec w) ?_
  rintro v w2 ⟨a, c, rfl, hs2, h2⟩
  refine kcall_of (sNew_spec (hD.same h2) hs2 twoC_good (most := 4) (by omega)) ?_
  rintro v w4 ⟨b, rfl, o, p, hP4, hlo4, hhi4, h4⟩
  have hsz2 := h2.size
  have C4 : Cur w o w4 b p (newS twoC 4) 0 := ⟨hP4, newS_gs (by omega), fun k hk => hlo4 k (by omega), hhi4, h2.trans h4⟩
  rw [ptrV]
  repeat (first | refine kN_at ?_ | refine kB_at ?_ | refine kfld_of ?_ | refine kext_at rfl ?_ | refine kG_of (by first | exact rfl | omega) ?_ | refine klen_at ?_ | refine eql_at ?_ | refine neq_at ?_ | refine lss_at ?_ | refine leq_at ?_ | refine gtr_at ?_ | refine geq_at ?_ | refine add_at (by omega) (by omega) ?_ | refine sub_at (by omega) (by omega) ?_ | refine not_at ?_ | refine kO_at ?_ | refine kprt_at rfl ?_ | refine kprtN_at rfl ?_ | refine kcap_at ?_ | refine klenStr_at ?_ | refine kN_iat ?_ | refine kN_fat ?_ | refine kIf_T (by first | exact rfl | exact decT (by omega) | exact notT (decF (by omega))) ?_ | refine kIf_F (by first | exact rfl | exact decF (by omega) | exact notF (decT (by omega))) ?_)
  rw [keq_ptr_nil ptSto]
  repeat (first | refine kN_at ?_ | refine kB_at ?_ | refine kfld_of ?_ | refine kext_at rfl ?_ | refine kG_of (by first | exact rfl | omega) ?_ | refine klen_at ?_ | refine eql_at ?_ | refine neq_at ?_ | refine lss_at ?_ | refine leq_at ?_ | refine gtr_at ?_ | refine geq_at ?_ | refine add_at (by omega) (by omega) ?_ | refine sub_at (by omega) (by omega) ?_ | refine not_at ?_ | refine kO_at ?_ | refine kprt_at rfl ?_ | refine kprtN_at rfl ?_ | refine kcap_at ?_ | refine klenStr_at ?_ | refine kN_iat ?_ | refine kN_fat ?_ | refine kIf_T (by first | exact rfl | exact decT (by omega) | exact notT (decF (by omega))) ?_ | refine kIf_F (by first | exact rfl | exact decF (by omega) | exact notF (decT (by omega))) ?_)
  rw [keq_nil_nil' ifErr]
  repeat (first | refine kN_at ?_ | refine kB_at ?_ | refine kfld_of ?_ | refine kext_at rfl ?_ | refine kG_of (by first | exact rfl | omega) ?_ | refine klen_at ?_ | refine eql_at ?_ | refine neq_at ?_ | refine lss_at ?_ | refine leq_at ?_ | refine gtr_at ?_ | refine geq_at ?_ | refine add_at (by omega) (by omega) ?_ | refine sub_at (by omega) (by omega) ?_ | refine not_at ?_ | refine kO_at ?_ | refine kprt_at rfl ?_ | refine kprtN_at rfl ?_ | refine kcap_at ?_ | refine klenStr_at ?_ | refine kN_iat ?_ | refine kN_fat ?_ | refine kIf_T (by first | exact rfl | exact decT (by omega) | exact notT (decF (by omega))) ?_ | refine kIf_F (by first | exact rfl | exact decF (by omega) | exact notF (decT (by omega))) ?_)
  refine kbld_of (cs := [.int .i64 1, .int .i64 0, .int .i64 0, .int .i64 0, .int .i64 0, .int .i64 0]) rfl ?_
  refine kbld_of (cs := [.int .i64 5, .int .i64 0, .int .i64 0, .int .i64 0]) rfl ?_
  refine kbld_of (cs := [.int .i64 0, .int .i64 5, .int .i64 0, .int .i64 0, .int .i64 0, .int .i64 0]) rfl ?_
  refine kbldS_of (cs := l1.flatMap Part.cells) rfl fun w16 h16 hs16 hb16 => ?_
  have C16 := C4.loc h16
  refine kcall_of (spawn_at (L := l1) (hD.same C16.same) C16.sp (C16.lo _ hDlt) C16.gs (by omega) (by intro e; exact absurd e (by decide)) (SlIs.blk hb16 rfl) (fun k f e => by cases e; exact C4.hi _ (Nat.le_refl _)) (by decide) l1_fits nt_l1) ?_
  rintro v w18 ⟨i, g0, L1, S1, hi1, hg1, rfl, hp1, hs1, hG1, B1, T1⟩
  have ei : i = 0 := by
    have : (newS twoC 4).free.getLast? = some 0 := rfl
    rw [this] at hi1; exact (Option.some.inj hi1).symm
  subst ei
  have eg : g0 = 0 := by
    have : (newS twoC 4).gens[0]? = some (0, false) := rfl
    rw [this] at hg1; cases hg1; rfl
  subst eg
  obtain ⟨o18, p18, C18, hl18, hm18⟩ := C16.turn T1 hG1
  repeat (first | refine kN_at ?_ | refine kB_at ?_ | refine kfld_of ?_ | refine kext_at rfl ?_ | refine kG_of (by first | exact rfl | omega) ?_ | refine klen_at ?_ | refine eql_at ?_ | refine neq_at ?_ | refine lss_at ?_ | refine leq_at ?_ | refine gtr_at ?_ | refine geq_at ?_ | refine add_at (by omega) (by omega) ?_ | refine sub_at (by omega) (by omega) ?_ | refine not_at ?_ | refine kO_at ?_ | refine kprt_at rfl ?_ | refine kprtN_at rfl ?_ | refine kcap_at ?_ | refine klenStr_at ?_ | refine kN_iat ?_ | refine kN_fat ?_ | refine kIf_T (by first | exact rfl | exact decT (by omega) | exact notT (decF (by omega))) ?_ | refine kIf_F (by first | exact rfl | exact decF (by omega) | exact notF (decT (by omega))) ?_)
  refine knew_of fun w22 h22 hs22 hb22 => ?_
  refine kst_of (vs := [.int .i64 0, .int .i64 1]) hb22 rfl rfl rfl (by simp) (by simp) fun w23 h23 hs23 hb23 => ?_
  have hx23 : blk w23 w18.heap.size = some (.cells #[.int .i64 0, .int .i64 1] 37) := hb23
  have m23 : Same w18 w23 := h22.trans' (h23.mono fun k _ e => .inr (by omega))
  have C23 := C18.loc m23
  have hox : o18 w18.heap.size = none := C18.hi _ (Nat.le_refl _)
  refine kbld_of (cs := [.int .i64 0, .int .i64 0, .int .i64 0, .int .i64 0, .int .i64 0, .int .i64 0]) rfl ?_
  refine kbld_of (cs := [.int .i64 1, .int .i64 0, .int .i64 0, .int .i64 0, .int .i64 0, .int .i64 0]) rfl ?_
  refine kbldS_of (cs := l2.flatMap Part.cells) rfl fun w27 h27 hs27 hb27 => ?_
  have C27 := C23.loc h27
  have hx27 := h27.get hx23 (fun h => h)
  have hcs1 : S1.cs = twoC := B1.cs
  have hfr1 : S1.free = [3, 2, 1] := B1.free
  have hgn1 : S1.gens = [(1, true), (0, false), (0, false), (0, false)] := B1.gens
  refine kcall_of (spawn_at (L := l2) (hD.same C27.same) C27.sp (C27.lo _ hDlt) C27.gs (by omega) (by rw [hfr1]; intro e; cases e) (SlIs.blk hb27 rfl) (fun k f e => by cases e; exact C23.hi _ (Nat.le_refl _)) (by decide) (by rw [hcs1]; exact l2_fits) nt_l2) ?_
  rintro v w29 ⟨i, g0, L2, S2, hi2, hg2, rfl, hp2, hs2', hG2, B2, T2⟩
  have ei : i = 1 := by
    rw [hfr1] at hi2; exact (Option.some.inj hi2).symm
  subst ei
  have eg : g0 = 0 := by
    rw [hgn1] at hg2; cases hg2; rfl
  subst eg
  obtain ⟨o29, p29, C29, hl29, hm29⟩ := C27.turn T2 hG2
  have hx29 := hm29.get hx27 (fun e => e hox)
  have hox29 : o29 w18.heap.size = none := by rw [hl29 _ (lt_of_blk hx27)]; exact hox
  repeat (first | refine kN_at ?_ | refine kB_at ?_ | refine kfld_of ?_ | refine kext_at rfl ?_ | refine kG_of (by first | exact rfl | omega) ?_ | refine klen_at ?_ | refine eql_at ?_ | refine neq_at ?_ | refine lss_at ?_ | refine leq_at ?_ | refine gtr_at ?_ | refine geq_at ?_ | refine add_at (by omega) (by omega) ?_ | refine sub_at (by omega) (by omega) ?_ | refine not_at ?_ | refine kO_at ?_ | refine kprt_at rfl ?_ | refine kprtN_at rfl ?_ | refine kcap_at ?_ | refine klenStr_at ?_ | refine kN_iat ?_ | refine kN_fat ?_ | refine kIf_T (by first | exact rfl | exact decT (by omega) | exact notT (decF (by omega))) ?_ | refine kIf_F (by first | exact rfl | exact decF (by omega) | exact notF (decT (by omega))) ?_)
  refine knew_of fun w33 h33 hs33 hb33 => ?_
  refine kst_of (vs := [.int .i64 1, .int .i64 1]) hb33 rfl rfl rfl (by simp) (by simp) fun w34 h34 hs34 hb34 => ?_
  have hy34 : blk w34 w29.heap.size = some (.cells #[.int .i64 1, .int .i64 1] 37) := hb34
  have m34 : Same w29 w34 := h33.trans' (h34.mono fun k _ e => .inr (by omega))
  have C34 := C29.loc m34
  have hoy : o29 w29.heap.size = none := C29.hi _ (Nat.le_refl _)
  have hx34 := m34.get hx29 (fun h => h)
  have hcs2 : S2.cs = twoC := B2.cs.trans hcs1
  have hgn2 : S2.gens = [(1, true), (1, true), (0, false), (0, false)] := by rw [B2.gens, hgn1]; rfl
  have hP0 : partsOf S2 0 = L1 := (B2.others 0 1 (by omega) (by rw [hgn1]; rfl)).trans B1.parts
  have hP1 : partsOf S2 1 = L2 := B2.parts
  have hq0 : pa 0 5 ∈ partsOf S2 0 := by rw [hP0]; exact hp1.mem_iff.2 (by simp [l1])
  repeat (first | refine kN_at ?_ | refine kB_at ?_ | refine kfld_of ?_ | refine kext_at rfl ?_ | refine kld_at hx34 rfl ?_ | refine kldN_at hx34 rfl (by omega) ?_ | refine kG_of (by first | exact rfl | omega) ?_ | refine klen_at ?_ | refine eql_at ?_ | refine neq_at ?_ | refine lss_at ?_ | refine leq_at ?_ | refine gtr_at ?_ | refine geq_at ?_ | refine add_at (by omega) (by omega) ?_ | refine sub_at (by omega) (by omega) ?_ | refine not_at ?_ | refine kO_at ?_ | refine kprt_at rfl ?_ | refine kprtN_at rfl ?_ | refine kcap_at ?_ | refine klenStr_at ?_ | refine kN_iat ?_ | refine kN_fat ?_ | refine kIf_T (by first | exact rfl | exact decT (by omega) | exact notT (decF (by omega))) ?_ | refine kIf_F (by first | exact rfl | exact decF (by omega) | exact notF (decT (by omega))) ?_)
  refine kcall_of (get_at C34.sp C34.gs (i := 0) (g := 1) (by rw [hgn2]; rfl) (c := 0) hq0 rfl) ?_
  rintro v w37 ⟨rfl, h37⟩
  repeat (first | refine kN_at ?_ | refine kB_at ?_ | refine kfld_of ?_ | refine kext_at rfl ?_ | refine kG_of (by first | exact rfl | omega) ?_ | refine klen_at ?_ | refine eql_at ?_ | refine neq_at ?_ | refine lss_at ?_ | refine leq_at ?_ | refine gtr_at ?_ | refine geq_at ?_ | refine add_at (by omega) (by omega) ?_ | refine sub_at (by omega) (by omega) ?_ | refine not_at ?_ | refine kO_at ?_ | refine kprt_at rfl ?_ | refine kprtN_at rfl ?_ | refine kcap_at ?_ | refine klenStr_at ?_ | refine kN_iat ?_ | refine kN_fat ?_ | refine kIf_T (by first | exact rfl | exact decT (by omega) | exact notT (decF (by omega))) ?_ | refine kIf_F (by first | exact rfl | exact decF (by omega) | exact notF (decT (by omega))) ?_)
  refine knew_of fun w41 h41 hs41 hb41 => ?_
  refine kst_of (vs := (pa 0 5).cells) hb41 rfl rfl rfl (by simp) (by simp [Part.cells]) fun w42 h42 hs42 hb42 => ?_
  have hp42 : blk w42 w37.heap.size = some (.cells (pa 0 5).cells.toArray 49) := hb42
  have m42 : Same w34 w42 := (h37.trans h41).trans' (h42.mono fun k _ e => .inr (by have := h37.size; omega))
  have C42 := C34.loc m42
  have hx42 := m42.get hx34 (fun h => h)
  have hy42 := m42.get hy34 (fun h => h)
  have hop : o29 w37.heap.size = none := C29.hi _ (by have := m34.size; have := h37.size; omega)
  have hq1 : pa 1 0 ∈ partsOf S2 1 := by rw [hP1]; exact hp2.mem_iff.2 (by simp [l2])
  repeat (first | refine kN_at ?_ | refine kB_at ?_ | refine kfld_of ?_ | refine kext_at rfl ?_ | refine kld_at hy42 rfl ?_ | refine kldN_at hy42 rfl (by omega) ?_ | refine kG_of (by first | exact rfl | omega) ?_ | refine klen_at ?_ | refine eql_at ?_ | refine neq_at ?_ | refine lss_at ?_ | refine leq_at ?_ | refine gtr_at ?_ | refine geq_at ?_ | refine add_at (by omega) (by omega) ?_ | refine sub_at (by omega) (by omega) ?_ | refine not_at ?_ | refine kO_at ?_ | refine kprt_at rfl ?_ | refine kprtN_at rfl ?_ | refine kcap_at ?_ | refine klenStr_at ?_ | refine kN_iat ?_ | refine kN_fat ?_ | refine kIf_T (by first | exact rfl | exact decT (by omega) | exact notT (decF (by omega))) ?_ | refine kIf_F (by first | exact rfl | exact decF (by omega) | exact notF (decT (by omega))) ?_)
  refine kcall_of (remove_at (hD.same C42.same) C42.sp (C42.lo _ hDlt) C42.gs (by omega) (i := 1) (g := 1) (by rw [hgn2]; rfl) (c := 1) hq1 rfl) ?_
  rintro v w45 ⟨rfl, S3, hG3, W3, T3⟩
  obtain ⟨o45, p45, C45, hl45, hm45⟩ := C42.turn T3 hG3
  have hx45 := hm45.get hx42 (fun e => e hox29)
  have hy45 := hm45.get hy42 (fun e => e hoy)
  have hp45 := hm45.get hp42 (fun e => e hop)
  have hox45 : o45 w18.heap.size = none := by rw [hl45 _ (lt_of_blk hx42)]; exact hox29
  have hoy45 : o45 w29.heap.size = none := by rw [hl45 _ (lt_of_blk hy42)]; exact hoy
  have hop45 : o45 w37.heap.size = none := by rw [hl45 _ (lt_of_blk hp42)]; exact hop
  repeat (first | refine kN_at ?_ | refine kB_at ?_ | refine kfld_of ?_ | refine kext_at rfl ?_ | refine kG_of (by first | exact rfl | omega) ?_ | refine klen_at ?_ | refine eql_at ?_ | refine neq_at ?_ | refine lss_at ?_ | refine leq_at ?_ | refine gtr_at ?_ | refine geq_at ?_ | refine add_at (by omega) (by omega) ?_ | refine sub_at (by omega) (by omega) ?_ | refine not_at ?_ | refine kO_at ?_ | refine kprt_at rfl ?_ | refine kprtN_at rfl ?_ | refine kcap_at ?_ | refine klenStr_at ?_ | refine kN_iat ?_ | refine kN_fat ?_ | refine kIf_T (by first | exact rfl | exact decT (by omega) | exact notT (decF (by omega))) ?_ | refine kIf_F (by first | exact rfl | exact decF (by omega) | exact notF (decT (by omega))) ?_)
  refine knew_of fun w49 h49 hs49 hb49 => ?_
  refine kst_of (vs := (pa 1 0).cells) hb49 rfl rfl rfl (by simp) (by simp [Part.cells]) fun w50 h50 hs50 hb50 => ?_
  have m50 : Same w45 w50 := h49.trans' (h50.mono fun k _ e => .inr (by omega))
  have C50 := C45.loc m50
  have hx50 := m50.get hx45 (fun h => h)
  have hy50 := m50.get hy45 (fun h => h)
  have hp50 := m50.get hp45 (fun h => h)
  have hgn3 : S3.gens = [(1, true), (1, true), (0, false), (0, false)] := W3.gens.trans hgn2
  repeat (first | refine kN_at ?_ | refine kB_at ?_ | refine kfld_of ?_ | refine kext_at rfl ?_ | refine kld_at hy50 rfl ?_ | refine kldN_at hy50 rfl (by omega) ?_ | refine kG_of (by first | exact rfl | omega) ?_ | refine klen_at ?_ | refine eql_at ?_ | refine neq_at ?_ | refine lss_at ?_ | refine leq_at ?_ | refine gtr_at ?_ | refine geq_at ?_ | refine add_at (by omega) (by omega) ?_ | refine sub_at (by omega) (by omega) ?_ | refine not_at ?_ | refine kO_at ?_ | refine kprt_at rfl ?_ | refine kprtN_at rfl ?_ | refine kcap_at ?_ | refine klenStr_at ?_ | refine kN_iat ?_ | refine kN_fat ?_ | refine kIf_T (by first | exact rfl | exact decT (by omega) | exact notT (decF (by omega))) ?_ | refine kIf_F (by first | exact rfl | exact decF (by omega) | exact notF (decT (by omega))) ?_)
  have hP3 : partsOf S3 1 = L2.filter fun x => decide (x.comp ≠ (1 : Int)) := by
    have := W3.parts
    rw [hP1] at this
    exact this
  obtain ⟨n3, r3, hsp3, hn3, hnm3, _, _, hce3, hmap3, _, _, _, _⟩ := parts_ok C50.sp C50.gs (i := 1) (g := 1) (by rw [hgn3]; rfl)
  have hno : ∀ x ∈ compsM S3.masks n3, (x : Int) ≠ 1 := fun x hx e => by
    rw [hce3] at hx
    have h1 : (x : Int) ∈ (listF S3.masks[n3]).map (fun c : Nat => (c : Int)) := List.mem_map.2 ⟨x, hx, rfl⟩
    rw [← hmap3, hP3] at h1
    obtain ⟨q, hq, e2⟩ := List.mem_map.1 h1
    have := (List.mem_filter.1 hq).2
    simp at this
    omega
  refine kcall_of (sSet_err (Sa := Sa) (k := 7) fun w2' m2' => sColumn_none (hL.same (C50.same.trans m2')) h7 (C50.sp.same m2') (i := 1) (g := 1) (by rw [hgn3]; rfl) hsp3 hn3 hno) ?_
  rintro v w53 ⟨xe, rfl, hxe, h53⟩
  repeat (first | refine kN_at ?_ | refine kB_at ?_ | refine kfld_of ?_ | refine kext_at rfl ?_ | refine kG_of (by first | exact rfl | omega) ?_ | refine klen_at ?_ | refine eql_at ?_ | refine neq_at ?_ | refine lss_at ?_ | refine leq_at ?_ | refine gtr_at ?_ | refine geq_at ?_ | refine add_at (by omega) (by omega) ?_ | refine sub_at (by omega) (by omega) ?_ | refine not_at ?_ | refine kO_at ?_ | refine kprt_at rfl ?_ | refine kprtN_at rfl ?_ | refine kcap_at ?_ | refine klenStr_at ?_ | refine kN_iat ?_ | refine kN_fat ?_ | refine kIf_T (by first | exact rfl | exact decT (by omega) | exact notT (decF (by omega))) ?_ | refine kIf_F (by first | exact rfl | exact decF (by omega) | exact notF (decT (by omega))) ?_)
  rw [zPartV]
  refine knew_of fun w57 h57 hs57 hb57 => ?_
  refine kst_of (vs := [.int .i64 0, .int .i64 0, .int .i64 0, .int .i64 0, .int .i64 0, .int .i64 0]) hb57 rfl rfl rfl (by simp) (by simp) fun w58 h58 hs58 hb58 => ?_
  have m58a : Same w53 w58 := h57.trans' (h58.mono fun k _ e => .inr (by omega))
  have m58 : Same w50 w58 := h53.trans m58a
  have C58 := C50.loc m58
  have hx58 := m58.get hx50 (fun h => h)
  have hy58 := m58.get hy50 (fun h => h)
  have hp58 := m58.get hp50 (fun h => h)
  have hxe58 := hxe.same m58a
  have hq03 : pa 0 5 ∈ partsOf S3 0 := by
    rw [W3.others 0 1 (by omega) (by rw [hgn2]; rfl)]; exact hq0
  have hcs3 : S3.cs = twoC := W3.cs.trans hcs2
  repeat (first | refine kN_at ?_ | refine kB_at ?_ | refine kfld_of ?_ | refine kext_at rfl ?_ | refine kld_at hx58 rfl ?_ | refine kldN_at hx58 rfl (by omega) ?_ | refine kG_of (by first | exact rfl | omega) ?_ | refine klen_at ?_ | refine eql_at ?_ | refine neq_at ?_ | refine lss_at ?_ | refine leq_at ?_ | refine gtr_at ?_ | refine geq_at ?_ | refine add_at (by omega) (by omega) ?_ | refine sub_at (by omega) (by omega) ?_ | refine not_at ?_ | refine kO_at ?_ | refine kprt_at rfl ?_ | refine kprtN_at rfl ?_ | refine kcap_at ?_ | refine klenStr_at ?_ | refine kN_iat ?_ | refine kN_fat ?_ | refine kIf_T (by first | exact rfl | exact decT (by omega) | exact notT (decF (by omega))) ?_ | refine kIf_F (by first | exact rfl | exact decF (by omega) | exact notF (decT (by omega))) ?_)
  refine kcall_of (set_at C58.sp C58.gs (i := 0) (g := 1) (by rw [hgn3]; rfl) (c := 0) hq03 rfl (cell := 0) (by rw [hcs3]; decide) 9 3) ?_
  rintro v w61 ⟨rfl, S4, hG4, U4, T4⟩
  obtain ⟨o61, p61, C61, hl61, hm61⟩ := C58.turn T4 hG4
  have hxl := lt_of_blk hx58
  have hyl := lt_of_blk hy58
  have hpl := lt_of_blk hp58
  have hx61 := hm61.get hx58 (fun e => e hox45)
  have hy61 := hm61.get hy58 (fun e => e hoy45)
  have hp61 := hm61.get hp58 (fun e => e hop45)
  have hxe61 := hxe58.mod hm61 (fun k h1 h2 e => e (C45.hi k (by have := m50.size; omega)))
  repeat (first | refine kN_at ?_ | refine kB_at ?_ | refine kfld_of ?_ | refine kext_at rfl ?_ | refine kG_of (by first | exact rfl | omega) ?_ | refine klen_at ?_ | refine eql_at ?_ | refine neq_at ?_ | refine lss_at ?_ | refine leq_at ?_ | refine gtr_at ?_ | refine geq_at ?_ | refine add_at (by omega) (by omega) ?_ | refine sub_at (by omega) (by omega) ?_ | refine not_at ?_ | refine kO_at ?_ | refine kprt_at rfl ?_ | refine kprtN_at rfl ?_ | refine kcap_at ?_ | refine klenStr_at ?_ | refine kN_iat ?_ | refine kN_fat ?_ | refine kIf_T (by first | exact rfl | exact decT (by omega) | exact notT (decF (by omega))) ?_ | refine kIf_F (by first | exact rfl | exact decF (by omega) | exact notF (decT (by omega))) ?_)
  refine knew_of fun w65 h65 hs65 hb65 => ?_
  refine kst_of (vs := (pa 0 5).cells) hb65 rfl rfl rfl (by simp) (by simp [Part.cells]) fun w66 h66 hs66 hb66 => ?_
  have hw66 : blk w66 w61.heap.size = some (.cells (pa 0 5).cells.toArray 49) := hb66
  have m66 : Same w61 w66 := h65.trans' (h66.mono fun k _ e => .inr (by omega))
  have C66 := C61.loc m66
  have hy66 := m66.get hy61 (fun h => h)
  have hp66 := m66.get hp61 (fun h => h)
  have hxe66 := hxe61.same m66
  refine kfld_of ?_
  rw [kix_array]
  refine kG_of (by decide) ?_
  rw [add_mk]
  refine kld_of (v := .int .i64 5) hp66 rfl ?_
  refine eql_at ?_
  rw [decT rfl]
  refine kB_at ?_
  refine kIf_T rfl ?_
  rw [keq_nil_nil ifErr]
  refine kB_at ?_
  refine kIf_T rfl ?_
  rw [keq_nil_nil ifErr]
  refine kB_at ?_
  refine kIf_T rfl ?_
  have hL66 := hL.same C66.same
  refine kld_err hL66 (k := 7) h7 rfl rfl ?_
  refine kcall_of (isX_spec hL66 h7 h7 hxe66) ?_
  rintro v w80 ⟨rfl, rfl⟩
  rw [decT rfl]
  refine kB_at ?_
  refine kIf_T rfl ?_
  refine kldN_at (cs := (pa 0 5).cells) hw66 rfl (by omega) ?_
  refine kldN_at (cs := (pa 0 5).cells) hp66 rfl (by omega) ?_
  have hok : (pa 0 5).ok := by unfold Part.ok pa I64; decide
  rw [keq_partE hok hok, decT rfl]
  refine kB_at ?_
  refine kIf_T rfl ?_
  rw [keq_nil_nil ifErr]
  refine kB_at ?_
  refine kIf_T rfl ?_
  have hfr4 : S4.free = [3, 2] := by rw [U4.free, W3.free, B2.free, hfr1]; rfl
  have hgn4 : S4.gens = [(1, true), (1, true), (0, false), (0, false)] := U4.gens.trans hgn3
  have hmk1 : S1.masks = [0, 3] := by
    rw [B1.masks, maskP_perm (cs := twoC) (by decide) hp1 l1_fits, mask_l1]; rfl
  have hmk2 : S2.masks = [0, 3] := by
    rw [B2.masks, hmk1, maskP_perm (cs := twoC) (by decide) hp2 l2_fits, mask_l2]; rfl
  have hfl : (L2.filter fun x => decide (x.comp ≠ (1 : Int))) = [pa 0 0] := by
    have h1 : (L2.filter fun x => decide (x.comp ≠ (1 : Int))).Perm (l2.filter fun x => decide (x.comp ≠ (1 : Int))) := hp2.filter _
    have h2 : (l2.filter fun x => decide (x.comp ≠ (1 : Int))) = [pa 0 0] := by decide
    rw [h2] at h1
    exact List.perm_singleton.1 h1
  have hP31 : partsOf S3 1 = [pa 0 0] := hP3.trans hfl
  have hmk3 : S3.masks = [0, 3, 1] := by
    have := W3.masks
    rw [hP1] at this
    have h2 : S3.masks = addM S2.masks (maskP (L2.filter fun x => decide (x.comp ≠ (1 : Int)))) := this
    rw [h2, hfl, hmk2]; decide
  have htb4 : S4.tabs.length = 3 := by rw [U4.tabs, W3.tabs, hmk3]; rfl
  have hml4 : S4.tabs.length = S4.masks.length := by rw [htb4, U4.masks, hmk3]; rfl
  have hP40 : partsOf S4 0 = (L1.map fun x => if x.comp = (0 : Int) then (pa 0 5).setCell 0 9 3 else x) := by
    have := U4.parts
    rw [W3.others 0 1 (by omega) (by rw [hgn2]; rfl), hP0] at this
    exact this
  have hP41 : partsOf S4 1 = [pa 0 0] := (U4.others 1 1 (by omega) (by rw [hgn3]; rfl)).trans hP31
  have hpa : ∀ (i : Nat) (g : Int), S4.gens[i]? = some (g, true) ↔ (i = 0 ∧ g = 1) ∨ (i = 1 ∧ g = 1) := fun i g => by
    rw [hgn4]
    match i with
    | 0 => simp [eq_comm]
    | 1 => simp [eq_comm]
    | 2 => simp
    | 3 => simp
    | i + 4 => simp
  have hm40 : maskP (partsOf S4 0) = 3 := by
    rw [hP40]
    have h1 : (L1.map fun x => if x.comp = (0 : Int) then (pa 0 5).setCell 0 9 3 else x).Perm (l1.map fun x => if x.comp = (0 : Int) then (pa 0 5).setCell 0 9 3 else x) := hp1.map _
    have h2 : (l1.map fun x => if x.comp = (0 : Int) then (pa 0 5).setCell 0 9 3 else x) = [pa 1 0, ⟨0, 9, 0, 0, 0, 3⟩] := by decide
    rw [h2] at h1
    rw [maskP_perm (cs := twoC) (by decide) h1 (fun q hq => by
      simp only [List.mem_cons, List.not_mem_nil, or_false] at hq
      rcases hq with rfl | rfl
      · exact fits_two (c := 1) (by omega) 0
      · exact ⟨0, rfl, by decide, fun x hx => by
          have : x ∈ [(0 : Int), 0, 0] := hx
          simpa using this⟩)]
    decide
  have hm41 : maskP (partsOf S4 1) = 1 := by rw [hP41]; decide
  refine kcall_of (sCount_spec C66.sp) ?_
  rintro v w91 ⟨rfl, h91⟩
  have C91 := C66.loc h91
  rw [hgn4, hfr4, natV]
  refine eql_at ?_
  rw [decT (by decide)]
  refine kB_at ?_
  refine kIf_T rfl ?_
  refine kcall_of (sTables_spec C91.sp) ?_
  rintro v w95 ⟨rfl, rfl⟩
  rw [htb4, natV]
  refine eql_at ?_
  rw [decT (by decide)]
  refine kB_at ?_
  refine kIf_T rfl ?_
  refine kcall_of (match_at C91.sp C91.gs hml4 1 0 (by omega) (by omega)) ?_
  rintro v w99 ⟨M1, hJ1, hO1, h99, _⟩
  have C99 := C91.loc h99
  obtain ⟨ma, mn, mc, rfl, hms, _⟩ := hO1.is
  have hn1 : M1.length = 2 := hJ1.len (l := [(0, 1), (1, 1)]) (by decide) (fun i g => by
    rw [hpa]
    constructor
    · intro h
      simp at h
      rcases h with ⟨h1, rfl⟩ | ⟨h1, rfl⟩
      · have : i = 0 := by omega
        subst this; exact ⟨.inl ⟨rfl, rfl⟩, by rw [hm40]; decide⟩
      · have : i = 1 := by omega
        subst this; exact ⟨.inr ⟨rfl, rfl⟩, by rw [hm41]; decide⟩
    · rintro ⟨⟨rfl, rfl⟩ | ⟨rfl, rfl⟩, _⟩ <;> simp) (by decide)
  have hmn : mn = 2 := by
    have := hms.1
    rw [flat_len entC 2 (fun _ => rfl), hn1] at this
    omega
  subst hmn
  refine klen_at ?_
  refine eql_at ?_
  rw [decT (by decide)]
  refine kB_at ?_
  refine kIf_T rfl ?_
  refine kcall_of (match_at C99.sp C99.gs hml4 1 2 (by omega) (by omega)) ?_
  rintro v w105 ⟨M2, hJ2, hO2, h105, _⟩
  have C105 := C99.loc h105
  obtain ⟨ma2, mn2, mc2, rfl, hms2, _⟩ := hO2.is
  have hn2 : M2.length = 1 := hJ2.len (l := [(1, 1)]) (by decide) (fun i g => by
    rw [hpa]
    constructor
    · intro h
      simp at h
      have : i = 1 := by omega
      subst this
      obtain ⟨_, rfl⟩ := h
      exact ⟨.inr ⟨rfl, rfl⟩, by rw [hm41]; decide⟩
    · rintro ⟨⟨rfl, rfl⟩ | ⟨rfl, rfl⟩, h⟩
      · rw [hm40] at h; exact absurd h (by decide)
      · simp) (by decide)
  have hmn2 : mn2 = 1 := by
    have := hms2.1
    rw [flat_len entC 2 (fun _ => rfl), hn2] at this
    omega
  subst hmn2
  refine klen_at ?_
  refine eql_at ?_
  rw [decT (by decide)]
  refine kB_at ?_
  refine kIf_T rfl ?_
  refine kcall_of (changed_at C105.sp C105.gs 0 3) ?_
  rintro v w111 ⟨M3, hJ3, hO3, h111, _⟩
  have C111 := C105.loc h111
  obtain ⟨ma3, mn3, mc3, rfl, hms3, _⟩ := hO3.is
  have hn3' : M3.length = 1 := hJ3.len (l := [(0, 1)]) (by decide) (fun i g => by
    rw [hpa]
    constructor
    · intro h
      simp at h
      have : i = 0 := by omega
      subst this
      obtain ⟨_, rfl⟩ := h
      refine ⟨.inl ⟨rfl, rfl⟩, ⟨0, 9, 0, 0, 0, 3⟩, ?_, rfl, by decide⟩
      rw [hP40]
      exact List.mem_map.2 ⟨pa 0 5, hp1.mem_iff.2 (by simp [l1]), by decide⟩
    · rintro ⟨⟨rfl, rfl⟩ | ⟨rfl, rfl⟩, h⟩
      · simp
      · rw [hP41] at h
        obtain ⟨q, hq, _, h2⟩ := h
        have : q = pa 0 0 := by simpa using hq
        subst this
        exact absurd h2 (by decide)) (by decide)
  have hmn3 : mn3 = 1 := by
    have := hms3.1
    rw [flat_len entC 2 (fun _ => rfl), hn3'] at this
    omega
  subst hmn3
  refine klen_at ?_
  refine eql_at ?_
  rw [decT (by decide)]
  refine kB_at ?_
  refine kIf_T rfl ?_
  have hy111 := (((h91.trans h99).trans h105).trans h111).get hy66 (fun h => h)
  refine kldN_at hy111 rfl (by omega) ?_
  refine kcall_of (sAlive_spec C111.sp 1 1) ?_
  rintro v w118 ⟨rfl, h118⟩
  refine ⟨?_, C111.same.trans h118⟩
  have := alive_of (gens := S4.gens) (i := 1) (g := 1) (by rw [hgn4]; rfl)
  exact congrArg Value.bool this
end Go.Proofs.YtlkpadfkmdgjcaaGreatDoor
end
section
set_option linter.unusedSimpArgs false
set_option linter.unusedVariables false
namespace Go.Proofs.YtlkpadfkmdgjcaaGreatDoor
open Go Go.Ev
set_option linter.unusedVariables false
set_option linter.unusedSimpArgs false
set_option maxRecDepth 100000
attribute [local irreducible] kO kB kStr kInt kN kG kIf kfld kld kldN kst knew kmap kbld kbldS kext kcnv klenStr klen kcap kprt kprtN kbool kint kstr keq kun ksl kix kiv kta kmk kmm ksem ksemU kextf kcallV kcallM kcall kL

def wideQ (i : Nat) : Comp := ⟨⟨#[UInt8.ofNat (97 + i)]⟩, 1, decide (i % 2 = 0), 0, 0, 0, 0⟩
def wideC : List Comp := (List.range 8).map wideQ
theorem wide_str : ∀ j, j < 8 → (⟨#[97, 98, 99, 100, 101, 102, 103, 104]⟩ : ByteArray).extract j (j + 1) = ⟨#[UInt8.ofNat (97 + j)]⟩
  | 0, _ => rfl | 1, _ => rfl | 2, _ => rfl | 3, _ => rfl | 4, _ => rfl | 5, _ => rfl | 6, _ => rfl | 7, _ => rfl
  | n + 8, h => by omega
theorem wide_good : GoodSc wideC where
  len := by decide
  names q hq := by
    obtain ⟨i, hi, rfl⟩ := List.mem_map.1 hq
    have hi : i < 8 := by simpa using hi
    exact ⟨by show 1 ≤ 1; omega, by show 1 ≤ 8; omega, fun x hx => by
      have : x = UInt8.ofNat (97 + i) := by
        have hx : x ∈ [UInt8.ofNat (97 + i)] := hx
        simpa using hx
      subst this
      rw [UInt8.toNat_ofNat']
      omega⟩
  apart i j hi hj e := by
    have hi : i < 8 := hi
    have hj : j < 8 := hj
    simp only [wideC, List.getElem_map, List.getElem_range, wideQ] at e
    have e2 : [UInt8.ofNat (97 + i)] = [UInt8.ofNat (97 + j)] := congrArg (fun b : ByteArray => b.data.toList) e
    have e3 := congrArg UInt8.toNat (List.cons.inj e2).1
    rw [UInt8.toNat_ofNat', UInt8.toNat_ofNat'] at e3
    omega
  wide q hq := by
    obtain ⟨i, hi, rfl⟩ := List.mem_map.1 hq
    exact ⟨1, rfl, by decide, by decide⟩
  zero q hq := by
    obtain ⟨i, hi, rfl⟩ := List.mem_map.1 hq
    exact ⟨rfl, rfl, rfl, rfl⟩
theorem wide_spec (w : World) : Meets Tryz.prog 13 #[] w fun v w' => ∃ a c, v = scV a wideC.length c (.slice none 0 0) ∧ SlIs w' a wideC.length 7 (wideC.flatMap Comp.cells) ∧ Same w w' := by
  refine f13_ok ?_
  unfold f13
  refine knew_of fun w2 h2 hs2 hb2 => ?_
  refine kbld_of (cs := [.slice none 0 0, .slice none 0 0]) rfl ?_
  refine knew_of fun w5 h5 hs5 hb5 => ?_
  refine kst_of (vs := [.slice none 0 0, .slice none 0 0]) hb5 rfl rfl rfl (by simp) (by simp) fun w6 h6 hs6 hb6 => ?_
  have hb6 : blk w6 w2.heap.size = some (.cells #[.slice none 0 0, .slice none 0 0] 34) := hb6
  have hb26 := h6.get (h5.get hb2 (fun h => h)) (by omega)
  have m6 : Same w w6 := (h2.trans h5).trans' (h6.mono fun k _ e => .inr (by omega))
  refine kL1_of 8 (fun j x wr => x = .int .i64 j ∧ ∃ cv, blk wr w2.heap.size = some (.cells #[cv, .slice none 0 0] 34) ∧ Own wr cv 7 (((List.range j).map wideQ).flatMap Comp.cells) ∧ (∀ k, vblk cv k → w6.heap.size ≤ k) ∧ Mod (fun k => k = w2.heap.size) w6 wr) ⟨lI1_0 ⟨rfl, _, hb6, Own.nil _ _, (fun k hk => by obtain ⟨_, _, _, e⟩ := hk; cases e), Mod.refl _ _⟩, fun x wr hx => ?_⟩
  obtain ⟨j, hj, ⟨rfl, cv, hb, hO, hf, hm⟩, hJ⟩ := lI1_step hx
  unfold f13_0
  refine lss_at ?_
  refine kB_at ?_
  refine kIf_dec (fun hlt => ?_) (fun hge => ?_)
  · have hlt : j < 8 := by omega
    unfold f13_1
    have hbd : blk wr.drew w2.heap.size = _ := hb
    repeat (first | refine kN_at ?_ | refine kB_at ?_ | refine kfld_of ?_ | refine kext_at rfl ?_ | refine kld_at hbd rfl ?_ | refine kldN_at hbd rfl (by omega) ?_ | refine kG_of (by first | exact rfl | omega) ?_ | refine klen_at ?_ | refine eql_at ?_ | refine neq_at ?_ | refine lss_at ?_ | refine leq_at ?_ | refine gtr_at ?_ | refine geq_at ?_ | refine add_at (by omega) (by omega) ?_ | refine sub_at (by omega) (by omega) ?_ | refine not_at ?_ | refine kO_at ?_ | refine kprt_at rfl ?_ | refine kprtN_at rfl ?_ | refine kcap_at ?_ | refine klenStr_at ?_ | refine kN_iat ?_ | refine kN_fat ?_ | refine kIf_T (by first | exact rfl | exact decT (by omega) | exact notT (decF (by omega))) ?_ | refine kIf_F (by first | exact rfl | exact decF (by omega) | exact notF (decT (by omega))) ?_)
    rw [show ((j : Nat) : Int) + 1 = ((j + 1 : Nat) : Int) by omega, ksl_string rfl rfl]
    have hsz : (⟨#[97, 98, 99, 100, 101, 102, 103, 104]⟩ : ByteArray).size = 8 := rfl
    refine kG_of (by simp only [loV_int, hiV_int, hsz]; omega) ?_
    simp only [loV_int, hiV_int, Int.toNat_natCast]
    rw [wide_str j hlt, kint_rem]
    refine kG_of (by decide) ?_
    have hrem : ((j : Int)).tmod 2 = ((j % 2 : Nat) : Int) := by
      rw [Int.tmod_eq_emod_of_nonneg (by omega)]; omega
    rw [hrem]
    refine eql_at ?_
    have hrb : decide (((j % 2 : Nat) : Int) = 0) = decide (j % 2 = 0) := by
      apply decide_eq_decide.2; omega
    rw [hrb]
    refine kbld_of (cs := (wideQ j).cells) rfl ?_
    refine kbldS_of (cs := (wideQ j).cells) rfl fun w16 h16 hs16 hb16 => ?_
    have hb16' := h16.get hbd (fun h => h)
    refine kG_of (kld_at hb16' rfl ⟨rfl, rfl⟩) ?_
    have hOd : Own wr.drew cv 7 _ := hO.same (Mod.refl (fun _ => False) _).drew
    refine ksem_append apComp (by omega) (hOd.same h16) (Src.ofSlIs (hk := slComp_is.choose_spec) 1 (SlIs.blk hb16 rfl) (ones_comps [wideQ j])) (by rw [flat_len Comp.cells 7 (fun _ => rfl)]; simp [Comp.cells]; omega) (by rw [flat_len Comp.cells 7 (fun _ => rfl)]; simp [Comp.cells]; omega) ?_
    intro v' w18 ho hm' hf'
    have hl2 := lt_of_blk hb6
    have hmsz := hm.size
    have hb18 := hm'.get hb16' (fun e => by have := hf _ e; omega)
    obtain ⟨a', n', c', rfl, _⟩ := ho.is
    repeat (first | refine kN_at ?_ | refine kB_at ?_ | refine kfld_of ?_ | refine kext_at rfl ?_ | refine kG_of (by first | exact rfl | omega) ?_ | refine klen_at ?_ | refine eql_at ?_ | refine neq_at ?_ | refine lss_at ?_ | refine leq_at ?_ | refine gtr_at ?_ | refine geq_at ?_ | refine add_at (by omega) (by omega) ?_ | refine sub_at (by omega) (by omega) ?_ | refine not_at ?_ | refine kO_at ?_ | refine kprt_at rfl ?_ | refine kprtN_at rfl ?_ | refine kcap_at ?_ | refine klenStr_at ?_ | refine kN_iat ?_ | refine kN_fat ?_ | refine kIf_T (by first | exact rfl | exact decT (by omega) | exact notT (decF (by omega))) ?_ | refine kIf_F (by first | exact rfl | exact decF (by omega) | exact notF (decT (by omega))) ?_)
    refine kst1_of hb18 rfl rfl (by simp) fun w20 h20 hs20 hb20 => ?_
    simp only [List.setIfInBounds_toArray, List.set_cons_succ, List.set_cons_zero] at hb20
    repeat (first | refine kN_at ?_ | refine kB_at ?_ | refine kfld_of ?_ | refine kext_at rfl ?_ | refine kG_of (by first | exact rfl | omega) ?_ | refine klen_at ?_ | refine eql_at ?_ | refine neq_at ?_ | refine lss_at ?_ | refine leq_at ?_ | refine gtr_at ?_ | refine geq_at ?_ | refine add_at (by omega) (by omega) ?_ | refine sub_at (by omega) (by omega) ?_ | refine not_at ?_ | refine kO_at ?_ | refine kprt_at rfl ?_ | refine kprtN_at rfl ?_ | refine kcap_at ?_ | refine klenStr_at ?_ | refine kN_iat ?_ | refine kN_fat ?_ | refine kIf_T (by first | exact rfl | exact decT (by omega) | exact notT (decF (by omega))) ?_ | refine kIf_F (by first | exact rfl | exact decF (by omega) | exact notF (decT (by omega))) ?_)
    rw [cast_succ]
    have hs6' : w6.heap.size = w2.heap.size + 1 := by omega
    have hdz : wr.drew.heap.size = wr.heap.size := rfl
    have hf2 : ∀ k, vblk (.slice a' n' c') k → w6.heap.size ≤ k := fun k hk => by
      rcases hf' k hk with h | h
      · exact hf k h
      · omega
    refine hJ _ _ hlt ⟨rfl, _, hb20, ?_, hf2, ?_⟩
    · rw [List.range_succ, List.map_append, List.flatMap_append]
      have e : ([j].map wideQ).flatMap Comp.cells = (wideQ j).cells := by simp
      rw [e]
      exact ho.mod h20 fun k hk e => by have := hf2 k hk; omega
    · have y : Mod (fun k => k = w2.heap.size ∨ w6.heap.size ≤ k) wr w20 := (Mod.of_same ((Mod.refl (fun _ => False) wr).drew.trans h16)).trans ((hm'.mono fun k _ e => .inr (hf k e)).trans (h20.mono fun k _ e => .inl e))
      exact hm.trans' y
  · have : j = 8 := by omega
    subst this
    unfold f13_3
    obtain ⟨a', n', c', rfl, hsl, _⟩ := hO.is
    have hn : n' = wideC.length := by
      have := hsl.1
      rw [flat_len Comp.cells 7 (fun _ => rfl)] at this
      show n' = 8
      have e : ((List.range 8).map wideQ).length = 8 := by simp
      omega
    subst hn
    repeat (first | refine kN_at ?_ | refine kB_at ?_ | refine kfld_of ?_ | refine kext_at rfl ?_ | refine kld_at hb rfl ?_ | refine kldN_at hb rfl (by omega) ?_ | refine kG_of (by first | exact rfl | omega) ?_ | refine klen_at ?_ | refine eql_at ?_ | refine neq_at ?_ | refine lss_at ?_ | refine leq_at ?_ | refine gtr_at ?_ | refine geq_at ?_ | refine add_at (by omega) (by omega) ?_ | refine sub_at (by omega) (by omega) ?_ | refine not_at ?_ | refine kO_at ?_ | refine kprt_at rfl ?_ | refine kprtN_at rfl ?_ | refine kcap_at ?_ | refine klenStr_at ?_ | refine kN_iat ?_ | refine kN_fat ?_ | refine kIf_T (by first | exact rfl | exact decT (by omega) | exact notT (decF (by omega))) ?_ | refine kIf_F (by first | exact rfl | exact decF (by omega) | exact notF (decT (by omega))) ?_)
    have hbx := hm.get hb26 (by omega)
    refine kst_of (vs := [.slice a' wideC.length c', .slice none 0 0]) hbx rfl rfl rfl (by simp) (by simp) fun w24 h24 hs24 hb24 => ?_
    have hb24 : blk w24 w.heap.size = some (.cells #[.slice a' wideC.length c', .slice none 0 0] 34) := hb24
    repeat (first | refine kN_at ?_ | refine kB_at ?_ | refine kfld_of ?_ | refine kext_at rfl ?_ | refine kld_at hb24 rfl ?_ | refine kldN_at hb24 rfl (by omega) ?_ | refine kG_of (by first | exact rfl | omega) ?_ | refine klen_at ?_ | refine eql_at ?_ | refine neq_at ?_ | refine lss_at ?_ | refine leq_at ?_ | refine gtr_at ?_ | refine geq_at ?_ | refine add_at (by omega) (by omega) ?_ | refine sub_at (by omega) (by omega) ?_ | refine not_at ?_ | refine kO_at ?_ | refine kprt_at rfl ?_ | refine kprtN_at rfl ?_ | refine kcap_at ?_ | refine klenStr_at ?_ | refine kN_iat ?_ | refine kN_fat ?_ | refine kIf_T (by first | exact rfl | exact decT (by omega) | exact notT (decF (by omega))) ?_ | refine kIf_F (by first | exact rfl | exact decF (by omega) | exact notF (decT (by omega))) ?_)
    refine ⟨a', c', rfl, hsl.mod h24 fun k f e ek => by have := hf k ⟨f, _, _, by rw [e]⟩; have := h5.size; have := h6.size; omega, ?_⟩
    exact (m6.trans' (hm.mono fun k _ e => .inr (by omega))).trans' (h24.mono fun k _ e => .inr (by omega))
end Go.Proofs.YtlkpadfkmdgjcaaGreatDoor
end
section
set_option linter.unusedSimpArgs false
set_option linter.unusedVariables false
namespace Go.Proofs.YtlkpadfkmdgjcaaGreatDoor
open Go Go.Ev
set_option linter.unusedVariables false
set_option linter.unusedSimpArgs false
set_option maxRecDepth 100000
attribute [local irreducible] kO kB kStr kInt kN kG kIf kfld kld kldN kst knew kmap kbld kbldS kext kcnv klenStr klen kcap kprt kprtN kbool kint kstr keq kun ksl kix kiv kta kmk kmm ksem ksemU kextf kcallV kcallM kcall kL

def partQ (v i : Nat) : Part := ⟨(i : Int), ((v + i : Nat) : Int), 0, 0, 0, (i : Int)⟩
def partsL (m v k : Nat) : List Part := ((List.range k).filter fun i => m.testBit i).map (partQ v)
theorem partsL_len (m v k : Nat) : (partsL m v k).length ≤ k := by
  unfold partsL
  rw [List.length_map]
  have := List.length_filter_le (fun i => m.testBit i) (List.range k)
  simpa using this
theorem partsL_succ (m v k : Nat) : partsL m v (k + 1) = partsL m v k ++ (if m.testBit k then [partQ v k] else []) := by
  unfold partsL
  rw [List.range_succ, List.filter_append, List.map_append]
  congr 1
  by_cases h : m.testBit k
  · simp [h]
  · simp [h]
theorem parts_spec (m v : Nat) (hv : v ≤ 1000000) (w : World) : Meets Tryz.prog 15 #[msk m, .int .i64 v] w fun r w' => Own w' r 6 ((partsL m v 8).flatMap Part.cells) ∧ Same w w' ∧ ∀ k, vblk r k → w.heap.size ≤ k := by
  rw [msk]
  refine f15_ok ?_
  unfold f15
  refine kbldS_of (cs := []) rfl fun w2 h2 hs2 hb2 => ?_
  have hO2 : Own w2 (.slice (some ⟨w.heap.size, 0, none⟩) 0 0) 6 ((partsL m v 0).flatMap Part.cells) := Own.blk hb2 (n := 0) (by simp) (by simp [maxLen])
  refine kL2_of 8 (fun j x y wr => y = .int .i64 j ∧ Own wr x 6 ((partsL m v j).flatMap Part.cells) ∧ (∀ k, vblk x k → w.heap.size ≤ k) ∧ Same w wr) ⟨lI2_0 ⟨rfl, hO2, fun k hk => by rw [vblk_new hk]; exact Nat.le_refl _, h2⟩, fun x y wr hx => ?_⟩
  obtain ⟨j, hj, ⟨rfl, hO, hf, hm⟩, hJ⟩ := lI2_step hx
  have hlen := partsL_len m v j
  unfold f15_0
  refine lss_at ?_
  refine kB_at ?_
  refine kIf_dec (fun hlt => ?_) (fun hge => ?_)
  · have hlt : j < 8 := by omega
    unfold f15_1
    rw [kint_shr]
    refine kG_of (by omega) ?_
    have h32 : j ≤ IntKind.u32.bits := by show j ≤ 32; omega
    rw [shr_nat m j h32, kint_rem]
    refine kG_of (by decide) ?_
    have hrem : (((m / 2 ^ j : Nat) : Int)).tmod 2 = ((m / 2 ^ j % 2 : Nat) : Int) := by
      generalize m / 2 ^ j = z
      rw [Int.tmod_eq_emod_of_nonneg (by omega)]; omega
    rw [hrem]
    refine eql_at ?_
    have htb : m.testBit j = decide (m / 2 ^ j % 2 = 1) := Nat.testBit_eq_decide_div_mod_eq
    refine kB_at ?_
    refine kIf_dec (fun hb => ?_) (fun hb => ?_)
    · have hb' : m.testBit j = true := by rw [htb]; simp; omega
      have es := partsL_succ m v j
      rw [if_pos hb'] at es
      repeat (first | refine kN_at ?_ | refine kB_at ?_ | refine kfld_of ?_ | refine kext_at rfl ?_ | refine kG_of (by first | exact rfl | omega) ?_ | refine klen_at ?_ | refine eql_at ?_ | refine neq_at ?_ | refine lss_at ?_ | refine leq_at ?_ | refine gtr_at ?_ | refine geq_at ?_ | refine add_at (by omega) (by omega) ?_ | refine sub_at (by omega) (by omega) ?_ | refine not_at ?_ | refine kO_at ?_ | refine kprt_at rfl ?_ | refine kprtN_at rfl ?_ | refine kcap_at ?_ | refine klenStr_at ?_ | refine kN_iat ?_ | refine kN_fat ?_ | refine kIf_T (by first | exact rfl | exact decT (by omega) | exact notT (decF (by omega))) ?_ | refine kIf_F (by first | exact rfl | exact decF (by omega) | exact notF (decT (by omega))) ?_)
      rw [show ((v : Nat) : Int) + ((j : Nat) : Int) = ((v + j : Nat) : Int) by omega]
      refine kbld_of (cs := [.int .i64 ((v + j : Nat) : Int), .int .i64 0, .int .i64 0, .int .i64 0]) rfl ?_
      refine kbld_of (cs := (partQ v j).cells) rfl ?_
      refine kbldS_of (cs := (partQ v j).cells) rfl fun w11 h11 hs11 hb11 => ?_
      refine ksem_append apParts (by omega) (hO.same h11) (Src.ofSlIs (hk := slPart_is.choose_spec) 1 (SlIs.blk hb11 rfl) (ones_parts [partQ v j])) (by rw [flat_len Part.cells 6 (fun _ => rfl)]; simp [Part.cells]; omega) (by rw [flat_len Part.cells 6 (fun _ => rfl)]; simp [Part.cells]; omega) ?_
      intro v' w13 ho hm' hf'
      repeat (first | refine kN_at ?_ | refine kB_at ?_ | refine kfld_of ?_ | refine kext_at rfl ?_ | refine kG_of (by first | exact rfl | omega) ?_ | refine klen_at ?_ | refine eql_at ?_ | refine neq_at ?_ | refine lss_at ?_ | refine leq_at ?_ | refine gtr_at ?_ | refine geq_at ?_ | refine add_at (by omega) (by omega) ?_ | refine sub_at (by omega) (by omega) ?_ | refine not_at ?_ | refine kO_at ?_ | refine kprt_at rfl ?_ | refine kprtN_at rfl ?_ | refine kcap_at ?_ | refine klenStr_at ?_ | refine kN_iat ?_ | refine kN_fat ?_ | refine kIf_T (by first | exact rfl | exact decT (by omega) | exact notT (decF (by omega))) ?_ | refine kIf_F (by first | exact rfl | exact decF (by omega) | exact notF (decT (by omega))) ?_)
      rw [cast_succ]
      refine hJ _ _ _ hlt ⟨rfl, ?_, fun k hk => ?_, (hm.trans h11).trans' (hm'.mono fun k _ e => .inr (hf k e))⟩
      · rw [es, List.flatMap_append]
        have e : [partQ v j].flatMap Part.cells = (partQ v j).cells := by simp
        rw [e]; exact ho
      · rcases hf' k hk with h | h
        · exact hf k h
        · have := hm.size; omega
    · have hb' : ¬ m.testBit j = true := by rw [htb]; simp; omega
      have es := partsL_succ m v j
      rw [if_neg hb', List.append_nil] at es
      unfold f15_2
      repeat (first | refine kN_at ?_ | refine kB_at ?_ | refine kfld_of ?_ | refine kext_at rfl ?_ | refine kG_of (by first | exact rfl | omega) ?_ | refine klen_at ?_ | refine eql_at ?_ | refine neq_at ?_ | refine lss_at ?_ | refine leq_at ?_ | refine gtr_at ?_ | refine geq_at ?_ | refine add_at (by omega) (by omega) ?_ | refine sub_at (by omega) (by omega) ?_ | refine not_at ?_ | refine kO_at ?_ | refine kprt_at rfl ?_ | refine kprtN_at rfl ?_ | refine kcap_at ?_ | refine klenStr_at ?_ | refine kN_iat ?_ | refine kN_fat ?_ | refine kIf_T (by first | exact rfl | exact decT (by omega) | exact notT (decF (by omega))) ?_ | refine kIf_F (by first | exact rfl | exact decF (by omega) | exact notF (decT (by omega))) ?_)
      rw [cast_succ]
      exact hJ _ _ _ hlt ⟨rfl, by rw [es]; exact hO, hf, hm⟩
  · have : j = 8 := by omega
    subst this
    exact ⟨hO, hm, hf⟩
end Go.Proofs.YtlkpadfkmdgjcaaGreatDoor
end
section
set_option linter.unusedSimpArgs false
set_option linter.unusedVariables false
namespace Go.Proofs.YtlkpadfkmdgjcaaGreatDoor
open Go Go.Ev
set_option linter.unusedVariables false
set_option linter.unusedSimpArgs false
set_option maxRecDepth 100000
attribute [local irreducible] kO kB kStr kInt kN kG kIf kfld kld kldN kst knew kmap kbld kbldS kext kcnv klenStr klen kcap kprt kprtN kbool kint kstr keq kun ksl kix kiv kta kmk kmm ksem ksemU kextf kcallV kcallM kcall kL

theorem wideC_len : wideC.length = 8 := by decide
theorem wd_wide {i : Nat} (h : i < 8) : wdF wideC i = 1 := by
  unfold wdF
  have : wideC[i]? = some (wideQ i) := by simp [wideC, h]
  rw [this]; rfl
theorem partsL_fits {m v : Nat} : ∀ q ∈ partsL m v 8, FitsP wideC q := by
  intro q hq
  unfold partsL at hq
  obtain ⟨i, hi, rfl⟩ := List.mem_map.1 hq
  have hi : i < 8 := by simpa using (List.mem_filter.1 hi).1
  refine ⟨i, rfl, by rw [wideC_len]; exact hi, ?_⟩
  rw [wd_wide hi]
  intro x hx
  have : x ∈ [(0 : Int), 0, 0] := hx
  simpa using this
theorem partsL_comps {m v : Nat} (hm : m < 256) : (partsL m v 8).map (·.comp) = (listF m).map (fun c : Nat => (c : Int)) := by
  unfold partsL listF
  rw [List.map_map]
  have e : (List.range 32).filter (fun i => m.testBit i) = (List.range 8).filter (fun i => m.testBit i) := by
    have h1 : List.range 32 = List.range 8 ++ List.range' 8 24 := by decide
    rw [h1, List.filter_append]
    have h2 : (List.range' 8 24).filter (fun i => m.testBit i) = [] := by
      rw [List.filter_eq_nil_iff]
      intro a ha
      have ha : 8 ≤ a := by simp only [List.mem_range'_1] at ha; omega
      have : m < 2 ^ a := Nat.lt_of_lt_of_le (show m < 2 ^ 8 by omega) (Nat.pow_le_pow_right (by omega) ha)
      rw [Nat.testBit_lt_two_pow this]; simp
    rw [h2, List.append_nil]
  rw [e]; rfl
theorem partsL_nt {m v : Nat} (hm : m < 256) : NoTwice (partsL m v 8) := by
  unfold NoTwice
  rw [partsL_comps hm]
  unfold List.Nodup
  rw [List.pairwise_map]
  exact (listF_nodup _).imp (fun h e => h (by omega))
theorem msk_lt255 (x : Nat) : x &&& 255 < 256 := by
  have : x &&& 255 ≤ 255 := Nat.and_le_right
  omega
end Go.Proofs.YtlkpadfkmdgjcaaGreatDoor
end
section
set_option linter.unusedSimpArgs false
set_option linter.unusedVariables false
namespace Go.Proofs.YtlkpadfkmdgjcaaGreatDoor
open Go Go.Ev
set_option linter.unusedVariables false
set_option linter.unusedSimpArgs false
set_option maxRecDepth 100000
attribute [local irreducible] kO kB kStr kInt kN kG kIf kfld kld kldN kst knew kmap kbld kbldS kext kcnv klenStr klen kcap kprt kprtN kbool kint kstr keq kun ksl kix kiv kta kmk kmm ksem ksemU kextf kcallV kcallM kcall kL

end Go.Proofs.YtlkpadfkmdgjcaaGreatDoor
end
section
set_option linter.unusedSimpArgs false
set_option linter.unusedVariables false
namespace Go.Proofs.YtlkpadfkmdgjcaaGreatDoor
open Go Go.Ev
set_option linter.unusedVariables false
set_option linter.unusedSimpArgs false
set_option maxRecDepth 100000

end Go.Proofs.YtlkpadfkmdgjcaaGreatDoor
end
section
set_option linter.unusedSimpArgs false
set_option linter.unusedVariables false
namespace Go.Proofs.YtlkpadfkmdgjcaaGreatDoor
open Go Go.Ev
set_option linter.unusedVariables false
set_option linter.unusedSimpArgs false
set_option maxRecDepth 100000
attribute [local irreducible] kO kB kStr kInt kN kG kIf kfld kld kldN kst knew kmap kbld kbldS kext kcnv klenStr klen kcap kprt kprtN kbool kint kstr keq kun ksl kix kiv kta kmk kmm ksem ksemU kextf kcallV kcallM kcall kL

end Go.Proofs.YtlkpadfkmdgjcaaGreatDoor
end
section
set_option linter.unusedSimpArgs false
set_option linter.unusedVariables false
namespace Go.Proofs.YtlkpadfkmdgjcaaGreatDoor
open Go Go.Ev
set_option linter.unusedVariables false
set_option linter.unusedSimpArgs false
set_option maxRecDepth 100000
attribute [local irreducible] kO kB kStr kInt kN kG kIf kfld kld kldN kst knew kmap kbld kbldS kext kcnv klenStr klen kcap kprt kprtN kbool kint kstr keq kun ksl kix kiv kta kmk kmm ksem ksemU kextf kcallV kcallM kcall kL

end Go.Proofs.YtlkpadfkmdgjcaaGreatDoor
end
section
set_option linter.unusedSimpArgs false
set_option linter.unusedVariables false
namespace Go.Proofs.YtlkpadfkmdgjcaaGreatDoor
open Go Go.Ev
set_option linter.unusedVariables false
set_option linter.unusedSimpArgs false
set_option maxRecDepth 100000
attribute [local irreducible] kO kB kStr kInt kN kG kIf kfld kld kldN kst knew kmap kbld kbldS kext kcnv klenStr klen kcap kprt kprtN kbool kint kstr keq kun ksl kix kiv kta kmk kmm ksem ksemU kextf kcallV kcallM kcall kL

end Go.Proofs.YtlkpadfkmdgjcaaGreatDoor
end
section
set_option linter.unusedSimpArgs false
set_option linter.unusedVariables false
namespace Go.Proofs.YtlkpadfkmdgjcaaGreatDoor
open Go Go.Ev
set_option linter.unusedVariables false
set_option linter.unusedSimpArgs false
set_option maxRecDepth 100000
attribute [local irreducible] kO kB kStr kInt kN kG kIf kfld kld kldN kst knew kmap kbld kbldS kext kcnv klenStr klen kcap kprt kprtN kbool kint kstr keq kun ksl kix kiv kta kmk kmm ksem ksemU kextf kcallV kcallM kcall kL

end Go.Proofs.YtlkpadfkmdgjcaaGreatDoor
end
section
set_option linter.unusedSimpArgs false
set_option linter.unusedVariables false
namespace Go.Proofs.YtlkpadfkmdgjcaaGreatDoor
open Go Go.Ev
set_option linter.unusedVariables false
set_option linter.unusedSimpArgs false
set_option maxRecDepth 100000
attribute [local irreducible] kO kB kStr kInt kN kG kIf kfld kld kldN kst knew kmap kbld kbldS kext kcnv klenStr klen kcap kprt kprtN kbool kint kstr keq kun ksl kix kiv kta kmk kmm ksem ksemU kextf kcallV kcallM kcall kL

theorem keq_partN {p q : Part} (hp : p.ok) (hq : q.ok) {w : World} {K : Value → World → Prop} {cx cy : Bool} :
    keq Tryz.prog .neq 49 cx cy (.agg p.cells.toArray) (.agg q.cells.toArray) w K = K (.bool (!decide (p = q))) w := by
  obtain ⟨r, hr, hiff⟩ := run_equalIn_deep (P := Tryz.prog) 9990 10 49 keyPart w 3 3 (.agg p.cells.toArray) (.agg q.cells.toArray) _ _ (formPart p) (formPart q) (kl_part hp 0) (kl_part hq 0)
  have hr2 : r = decide (p = q) := by
    rw [Bool.eq_iff_iff, hiff, decide_eq_true_eq]
    cases p; cases q
    simp
  rw [hr2] at hr
  simp only [keq, eqW, semV, Sem.run_bind, run_eqGuard_agg w .neq 49 _ _ p.cells.toArray q.cells.toArray guardPart, Result.andThen_ok, run_neq_struct]
  rw [show (10000 : Nat) = 9990 + 10 from rfl, hr]
  rfl

theorem same_spec {w : World} {L : List Part} (hok : ∀ q ∈ L, q.ok) (hlen : L.length ≤ 1000000) {a1 a2 : Option Addr} {c1 c2 : Nat} (h1 : SlIs w a1 L.length 6 (L.flatMap Part.cells)) (h2 : SlIs w a2 L.length 6 (L.flatMap Part.cells)) :
    Meets Tryz.prog 25 #[.slice a1 L.length c1, .slice a2 L.length c2] w fun v w' => v = .bool true ∧ Same w w' := by
  refine f25_ok ?_
  unfold f25
  refine klen_at ?_
  refine klen_at ?_
  refine neq_at ?_
  rw [decF (by simp)]
  refine kB_at ?_
  refine kIf_F rfl ?_
  unfold f25_0
  refine kL1_of L.length (fun j x wr => x = .int .i64 j ∧ Same w wr) ⟨lI1_0 ⟨rfl, Mod.refl _ _⟩, fun x wr hx => ?_⟩
  obtain ⟨j, hj, ⟨rfl, hm⟩, hJ⟩ := lI1_step hx
  unfold f25_1
  refine klen_at ?_
  refine lss_at ?_
  refine kB_at ?_
  refine kIf_dec (fun hlt => ?_) (fun hge => ?_)
  · have hlt : j < L.length := by omega
    have hq := hok _ (List.getElem_mem hlt)
    have md : Same wr wr.drew := (Mod.refl (fun _ => False) _).drew
    unfold f25_2
    refine kixldN_of (F := Part.cells) (sz := 6) (fun _ => rfl) (by omega) (h1.same hm) hlt rfl ?_
    refine kG_of rfl ?_
    refine kixldN_of (F := Part.cells) (sz := 6) (fun _ => rfl) (by omega) (h2.same hm) hlt rfl ?_
    refine kG_of rfl ?_
    rw [keq_partN hq hq]
    refine kG_of rfl ?_
    refine kB_at ?_
    refine kIf_F (by simp) ?_
    unfold f25_3
    repeat (first | refine kN_at ?_ | refine kB_at ?_ | refine kfld_of ?_ | refine kext_at rfl ?_ | refine kG_of (by first | exact rfl | omega) ?_ | refine klen_at ?_ | refine eql_at ?_ | refine neq_at ?_ | refine lss_at ?_ | refine leq_at ?_ | refine gtr_at ?_ | refine geq_at ?_ | refine add_at (by omega) (by omega) ?_ | refine sub_at (by omega) (by omega) ?_ | refine not_at ?_ | refine kO_at ?_ | refine kprt_at rfl ?_ | refine kprtN_at rfl ?_ | refine kcap_at ?_ | refine klenStr_at ?_ | refine kN_iat ?_ | refine kN_fat ?_ | refine kIf_T (by first | exact rfl | exact decT (by omega) | exact notT (decF (by omega))) ?_ | refine kIf_F (by first | exact rfl | exact decF (by omega) | exact notF (decT (by omega))) ?_)
    rw [cast_succ]
    exact hJ _ _ hlt ⟨rfl, hm.trans md⟩
  · exact ⟨rfl, hm⟩
end Go.Proofs.YtlkpadfkmdgjcaaGreatDoor
end
section
set_option linter.unusedSimpArgs false
set_option linter.unusedVariables false
namespace Go.Proofs.YtlkpadfkmdgjcaaGreatDoor
open Go Go.Ev
set_option linter.unusedVariables false
set_option linter.unusedSimpArgs false
set_option maxRecDepth 100000
attribute [local irreducible] kO kB kStr kInt kN kG kIf kfld kld kldN kst knew kmap kbld kbldS kext kcnv klenStr klen kcap kprt kprtN kbool kint kstr keq kun ksl kix kiv kta kmk kmm ksem ksemU kextf kcallV kcallM kcall kL

/-! ### No store at all -/
theorem sSpawn_nil {pr : Nat → Prop} {Sa : Nat → Addr} {w : World} (hL : LaidP pr Sa w) (h2 : pr 2) (v1 : Value) :
    Meets Tryz.prog 14 #[.pointer none, v1] w fun v w' => ∃ x, v = .tuple #[entV 0 0, x] ∧ ErrX Sa 2 w.heap.size x w' ∧ Same w w' := by
  refine f14_ok ?_
  unfold f14
  refine knew_of fun w2 hm2 hs2 hb2 => ?_
  rw [keq_ptr_nil ptSto]
  refine kB_at ?_
  refine kIf_T rfl ?_
  refine kbld_of (cs := [.int .i64 0, .int .i64 0]) rfl ?_
  refine kld_err (hL.same hm2) h2 rfl rfl ?_
  refine kcall_of (sWrong_spec (ErrX.sent Sa 2 w2.heap.size w2) (Nat.le_refl _)) ?_
  rintro v w20 ⟨hx, h20⟩
  refine kst_of (vs := [.int .i64 0, .int .i64 0]) (h20.get hb2 (fun h => h)) rfl rfl rfl (by simp) (by simp) fun w21 h21 hs21 hb21 => ?_
  have hb21 : blk w21 w.heap.size = some (.cells #[.int .i64 0, .int .i64 0] 37) := hb21
  repeat (first | refine kN_at ?_ | refine kB_at ?_ | refine kfld_of ?_ | refine kext_at rfl ?_ | refine kld_at hb21 rfl ?_ | refine kldN_at hb21 rfl (by omega) ?_ | refine kG_of (by first | exact rfl | omega) ?_ | refine klen_at ?_ | refine eql_at ?_ | refine neq_at ?_ | refine lss_at ?_ | refine leq_at ?_ | refine gtr_at ?_ | refine geq_at ?_ | refine add_at (by omega) (by omega) ?_ | refine sub_at (by omega) (by omega) ?_ | refine not_at ?_ | refine kO_at ?_ | refine kprt_at rfl ?_ | refine kprtN_at rfl ?_ | refine kcap_at ?_ | refine klenStr_at ?_ | refine kN_iat ?_ | refine kN_fat ?_ | refine kIf_T (by first | exact rfl | exact decT (by omega) | exact notT (decF (by omega))) ?_ | refine kIf_F (by first | exact rfl | exact decF (by omega) | exact notF (decT (by omega))) ?_)
  exact ⟨_, rfl, (hx.mod h21 fun k h1 h2 e => by omega).mono (by omega), (hm2.trans h20).trans' (h21.mono fun k _ e => .inr (by omega))⟩
theorem sSpot_nil {pr : Nat → Prop} {Sa : Nat → Addr} {w : World} (hL : LaidP pr Sa w) (h2 : pr 2) (idx gen : Int) :
    Meets Tryz.prog 81 #[.pointer none, entV idx gen] w fun v w' => ∃ x, v = .tuple #[.agg #[.int .i64 0, .int .i64 0], x] ∧ ErrX Sa 2 w.heap.size x w' ∧ Same w w' := by
  refine f81_ok ?_
  unfold f81
  refine knew_of fun w2 hm2 hs2 hb2 => ?_
  refine knew_of fun w4 hm4 hs4 hb4 => ?_
  have m4 := hm2.trans hm4
  rw [keq_ptr_nil ptSto]
  repeat (first | refine kN_at ?_ | refine kB_at ?_ | refine kfld_of ?_ | refine kext_at rfl ?_ | refine kG_of (by first | exact rfl | omega) ?_ | refine klen_at ?_ | refine eql_at ?_ | refine neq_at ?_ | refine lss_at ?_ | refine leq_at ?_ | refine gtr_at ?_ | refine geq_at ?_ | refine add_at (by omega) (by omega) ?_ | refine sub_at (by omega) (by omega) ?_ | refine not_at ?_ | refine kO_at ?_ | refine kprt_at rfl ?_ | refine kprtN_at rfl ?_ | refine kcap_at ?_ | refine klenStr_at ?_ | refine kN_iat ?_ | refine kN_fat ?_ | refine kIf_T (by first | exact rfl | exact decT (by omega) | exact notT (decF (by omega))) ?_ | refine kIf_F (by first | exact rfl | exact decF (by omega) | exact notF (decT (by omega))) ?_)
  refine kbld_of (cs := [.int .i64 0, .int .i64 0]) rfl ?_
  refine kld_err (hL.same m4) h2 rfl rfl ?_
  refine kcall_of (sWrong_spec (ErrX.sent Sa 2 w4.heap.size w4) (Nat.le_refl _)) ?_
  rintro v w20 ⟨hx, h20⟩
  refine kst_of (vs := [.int .i64 0, .int .i64 0]) (h20.get hb4 (fun h => h)) rfl rfl rfl (by simp) (by simp) fun w21 h21 hs21 hb21 => ?_
  have hb21 : blk w21 w2.heap.size = some (.cells #[.int .i64 0, .int .i64 0] 153) := hb21
  repeat (first | refine kN_at ?_ | refine kB_at ?_ | refine kfld_of ?_ | refine kext_at rfl ?_ | refine kld_at hb21 rfl ?_ | refine kldN_at hb21 rfl (by omega) ?_ | refine kG_of (by first | exact rfl | omega) ?_ | refine klen_at ?_ | refine eql_at ?_ | refine neq_at ?_ | refine lss_at ?_ | refine leq_at ?_ | refine gtr_at ?_ | refine geq_at ?_ | refine add_at (by omega) (by omega) ?_ | refine sub_at (by omega) (by omega) ?_ | refine not_at ?_ | refine kO_at ?_ | refine kprt_at rfl ?_ | refine kprtN_at rfl ?_ | refine kcap_at ?_ | refine klenStr_at ?_ | refine kN_iat ?_ | refine kN_fat ?_ | refine kIf_T (by first | exact rfl | exact decT (by omega) | exact notT (decF (by omega))) ?_ | refine kIf_F (by first | exact rfl | exact decF (by omega) | exact notF (decT (by omega))) ?_)
  exact ⟨_, rfl, (hx.mod h21 fun k h1 h2 e => by omega).mono (by omega), (m4.trans h20).trans' (h21.mono fun k _ e => .inr (by omega))⟩
/-- What 'spot' tells when it tells an error. -/
def SpotErr (Sa : Nat → Addr) (k : Nat) (r : Value) (idx gen : Int) (w : World) : Prop :=
  ∀ w2, Same w w2 → Meets Tryz.prog 81 #[r, entV idx gen] w2 fun v w' => ∃ x, v = .tuple #[.agg #[.int .i64 0, .int .i64 0], x] ∧ ErrX Sa k w2.heap.size x w' ∧ Same w2 w'
theorem sParts_err {Sa : Nat → Addr} {k : Nat} {w : World} {r : Value} {idx gen : Int} (h : SpotErr Sa k r idx gen w) :
    Meets Tryz.prog 21 #[r, entV idx gen] w fun v w' => ∃ x, v = .tuple #[.slice none 0 0, x] ∧ ErrX Sa k w.heap.size x w' ∧ Same w w' := by
  refine f21_ok ?_
  unfold f21
  refine knew_of fun w2 hm2 hs2 hb2 => ?_
  have hb2 : blk w2 w.heap.size = some (.cells #[.int .i64 idx, .int .i64 gen] 37) := hb2
  repeat (first | refine kN_at ?_ | refine kB_at ?_ | refine kfld_of ?_ | refine kext_at rfl ?_ | refine kld_at hb2 rfl ?_ | refine kldN_at hb2 rfl (by omega) ?_ | refine kG_of (by first | exact rfl | omega) ?_ | refine klen_at ?_ | refine eql_at ?_ | refine neq_at ?_ | refine lss_at ?_ | refine leq_at ?_ | refine gtr_at ?_ | refine geq_at ?_ | refine add_at (by omega) (by omega) ?_ | refine sub_at (by omega) (by omega) ?_ | refine not_at ?_ | refine kO_at ?_ | refine kprt_at rfl ?_ | refine kprtN_at rfl ?_ | refine kcap_at ?_ | refine klenStr_at ?_ | refine kN_iat ?_ | refine kN_fat ?_ | refine kIf_T (by first | exact rfl | exact decT (by omega) | exact notT (decF (by omega))) ?_ | refine kIf_F (by first | exact rfl | exact decF (by omega) | exact notF (decT (by omega))) ?_)
  refine kcall_of (h w2 hm2) ?_
  rintro v w5 ⟨x, rfl, hx, h5⟩
  repeat (first | refine kN_at ?_ | refine kB_at ?_ | refine kfld_of ?_ | refine kext_at rfl ?_ | refine kG_of (by first | exact rfl | omega) ?_ | refine klen_at ?_ | refine eql_at ?_ | refine neq_at ?_ | refine lss_at ?_ | refine leq_at ?_ | refine gtr_at ?_ | refine geq_at ?_ | refine add_at (by omega) (by omega) ?_ | refine sub_at (by omega) (by omega) ?_ | refine not_at ?_ | refine kO_at ?_ | refine kprt_at rfl ?_ | refine kprtN_at rfl ?_ | refine kcap_at ?_ | refine klenStr_at ?_ | refine kN_iat ?_ | refine kN_fat ?_ | refine kIf_T (by first | exact rfl | exact decT (by omega) | exact notT (decF (by omega))) ?_ | refine kIf_F (by first | exact rfl | exact decF (by omega) | exact notF (decT (by omega))) ?_)
  refine knew_of fun w9 h9 hs9 hb9 => ?_
  refine kst_of (vs := [.int .i64 0, .int .i64 0]) hb9 rfl rfl rfl (by simp) (by simp) fun w10 h10 hs10 hb10 => ?_
  have m10 : Same w5 w10 := h9.trans' (h10.mono fun k _ e => .inr (by omega))
  have hx10 := hx.same m10
  obtain ⟨t, y, rfl⟩ := hx.if
  rw [keq_if_nil' ifErr]
  refine kB_at ?_
  refine kIf_T rfl ?_
  exact ⟨_, rfl, hx10.mono (by omega), (hm2.trans h5).trans m10⟩
theorem sDespawn_err {Sa : Nat → Addr} {k : Nat} {w : World} {r : Value} {idx gen : Int} (h : SpotErr Sa k r idx gen w) :
    Meets Tryz.prog 27 #[r, entV idx gen] w fun v w' => ∃ x, v = .tuple #[.slice none 0 0, x] ∧ ErrX Sa k w.heap.size x w' ∧ Same w w' := by
  refine f27_ok ?_
  unfold f27
  refine knew_of fun w2 hm2 hs2 hb2 => ?_
  have hb2 : blk w2 w.heap.size = some (.cells #[.int .i64 idx, .int .i64 gen] 37) := hb2
  repeat (first | refine kN_at ?_ | refine kB_at ?_ | refine kfld_of ?_ | refine kext_at rfl ?_ | refine kld_at hb2 rfl ?_ | refine kldN_at hb2 rfl (by omega) ?_ | refine kG_of (by first | exact rfl | omega) ?_ | refine klen_at ?_ | refine eql_at ?_ | refine neq_at ?_ | refine lss_at ?_ | refine leq_at ?_ | refine gtr_at ?_ | refine geq_at ?_ | refine add_at (by omega) (by omega) ?_ | refine sub_at (by omega) (by omega) ?_ | refine not_at ?_ | refine kO_at ?_ | refine kprt_at rfl ?_ | refine kprtN_at rfl ?_ | refine kcap_at ?_ | refine klenStr_at ?_ | refine kN_iat ?_ | refine kN_fat ?_ | refine kIf_T (by first | exact rfl | exact decT (by omega) | exact notT (decF (by omega))) ?_ | refine kIf_F (by first | exact rfl | exact decF (by omega) | exact notF (decT (by omega))) ?_)
  refine kcall_of (h w2 hm2) ?_
  rintro v w5 ⟨x, rfl, hx, h5⟩
  repeat (first | refine kN_at ?_ | refine kB_at ?_ | refine kfld_of ?_ | refine kext_at rfl ?_ | refine kG_of (by first | exact rfl | omega) ?_ | refine klen_at ?_ | refine eql_at ?_ | refine neq_at ?_ | refine lss_at ?_ | refine leq_at ?_ | refine gtr_at ?_ | refine geq_at ?_ | refine add_at (by omega) (by omega) ?_ | refine sub_at (by omega) (by omega) ?_ | refine not_at ?_ | refine kO_at ?_ | refine kprt_at rfl ?_ | refine kprtN_at rfl ?_ | refine kcap_at ?_ | refine klenStr_at ?_ | refine kN_iat ?_ | refine kN_fat ?_ | refine kIf_T (by first | exact rfl | exact decT (by omega) | exact notT (decF (by omega))) ?_ | refine kIf_F (by first | exact rfl | exact decF (by omega) | exact notF (decT (by omega))) ?_)
  refine knew_of fun w9 h9 hs9 hb9 => ?_
  refine kst_of (vs := [.int .i64 0, .int .i64 0]) hb9 rfl rfl rfl (by simp) (by simp) fun w10 h10 hs10 hb10 => ?_
  have m10 : Same w5 w10 := h9.trans' (h10.mono fun k _ e => .inr (by omega))
  have hx10 := hx.same m10
  obtain ⟨t, y, rfl⟩ := hx.if
  rw [keq_if_nil' ifErr]
  refine kB_at ?_
  refine kIf_T rfl ?_
  exact ⟨_, rfl, hx10.mono (by omega), (hm2.trans h5).trans m10⟩
theorem sAlive_nil (w : World) (idx gen : Int) : Meets Tryz.prog 29 #[.pointer none, entV idx gen] w fun v w' => v = .bool false ∧ Same w w' := by
  refine f29_ok ?_
  unfold f29
  refine knew_of fun w2 hm2 hs2 hb2 => ?_
  rw [keq_ptr_nil' ptSto]
  repeat (first | refine kN_at ?_ | refine kB_at ?_ | refine kfld_of ?_ | refine kext_at rfl ?_ | refine kG_of (by first | exact rfl | omega) ?_ | refine klen_at ?_ | refine eql_at ?_ | refine neq_at ?_ | refine lss_at ?_ | refine leq_at ?_ | refine gtr_at ?_ | refine geq_at ?_ | refine add_at (by omega) (by omega) ?_ | refine sub_at (by omega) (by omega) ?_ | refine not_at ?_ | refine kO_at ?_ | refine kprt_at rfl ?_ | refine kprtN_at rfl ?_ | refine kcap_at ?_ | refine klenStr_at ?_ | refine kN_iat ?_ | refine kN_fat ?_ | refine kIf_T (by first | exact rfl | exact decT (by omega) | exact notT (decF (by omega))) ?_ | refine kIf_F (by first | exact rfl | exact decF (by omega) | exact notF (decT (by omega))) ?_)
  exact ⟨rfl, hm2.drew⟩
theorem sCount_nil (w : World) : Meets Tryz.prog 17 #[.pointer none] w fun v w' => v = .int .i64 0 ∧ w' = w := by
  refine f17_ok ?_
  unfold f17
  rw [keq_ptr_nil ptSto]
  repeat (first | refine kN_at ?_ | refine kB_at ?_ | refine kfld_of ?_ | refine kext_at rfl ?_ | refine kG_of (by first | exact rfl | omega) ?_ | refine klen_at ?_ | refine eql_at ?_ | refine neq_at ?_ | refine lss_at ?_ | refine leq_at ?_ | refine gtr_at ?_ | refine geq_at ?_ | refine add_at (by omega) (by omega) ?_ | refine sub_at (by omega) (by omega) ?_ | refine not_at ?_ | refine kO_at ?_ | refine kprt_at rfl ?_ | refine kprtN_at rfl ?_ | refine kcap_at ?_ | refine klenStr_at ?_ | refine kN_iat ?_ | refine kN_fat ?_ | refine kIf_T (by first | exact rfl | exact decT (by omega) | exact notT (decF (by omega))) ?_ | refine kIf_F (by first | exact rfl | exact decF (by omega) | exact notF (decT (by omega))) ?_)
  exact ⟨rfl, rfl⟩
theorem sTables_nil (w : World) : Meets Tryz.prog 26 #[.pointer none] w fun v w' => v = .int .i64 0 ∧ w' = w := by
  refine f26_ok ?_
  unfold f26
  rw [keq_ptr_nil ptSto]
  repeat (first | refine kN_at ?_ | refine kB_at ?_ | refine kfld_of ?_ | refine kext_at rfl ?_ | refine kG_of (by first | exact rfl | omega) ?_ | refine klen_at ?_ | refine eql_at ?_ | refine neq_at ?_ | refine lss_at ?_ | refine leq_at ?_ | refine gtr_at ?_ | refine geq_at ?_ | refine add_at (by omega) (by omega) ?_ | refine sub_at (by omega) (by omega) ?_ | refine not_at ?_ | refine kO_at ?_ | refine kprt_at rfl ?_ | refine kprtN_at rfl ?_ | refine kcap_at ?_ | refine klenStr_at ?_ | refine kN_iat ?_ | refine kN_fat ?_ | refine kIf_T (by first | exact rfl | exact decT (by omega) | exact notT (decF (by omega))) ?_ | refine kIf_F (by first | exact rfl | exact decF (by omega) | exact notF (decT (by omega))) ?_)
  exact ⟨rfl, rfl⟩
theorem sMatch_nil (w : World) (x y : Value) : Meets Tryz.prog 16 #[.pointer none, x, y] w fun v w' => v = .slice none 0 0 ∧ w' = w := by
  refine f16_ok ?_
  unfold f16
  rw [keq_ptr_nil ptSto]
  repeat (first | refine kN_at ?_ | refine kB_at ?_ | refine kfld_of ?_ | refine kext_at rfl ?_ | refine kG_of (by first | exact rfl | omega) ?_ | refine klen_at ?_ | refine eql_at ?_ | refine neq_at ?_ | refine lss_at ?_ | refine leq_at ?_ | refine gtr_at ?_ | refine geq_at ?_ | refine add_at (by omega) (by omega) ?_ | refine sub_at (by omega) (by omega) ?_ | refine not_at ?_ | refine kO_at ?_ | refine kprt_at rfl ?_ | refine kprtN_at rfl ?_ | refine kcap_at ?_ | refine klenStr_at ?_ | refine kN_iat ?_ | refine kN_fat ?_ | refine kIf_T (by first | exact rfl | exact decT (by omega) | exact notT (decF (by omega))) ?_ | refine kIf_F (by first | exact rfl | exact decF (by omega) | exact notF (decT (by omega))) ?_)
  exact ⟨rfl, rfl⟩
theorem sChanged_nil (w : World) (x y : Value) : Meets Tryz.prog 30 #[.pointer none, x, y] w fun v w' => v = .slice none 0 0 ∧ w' = w := by
  refine f30_ok ?_
  unfold f30
  rw [keq_ptr_nil ptSto]
  repeat (first | refine kN_at ?_ | refine kB_at ?_ | refine kfld_of ?_ | refine kext_at rfl ?_ | refine kG_of (by first | exact rfl | omega) ?_ | refine klen_at ?_ | refine eql_at ?_ | refine neq_at ?_ | refine lss_at ?_ | refine leq_at ?_ | refine gtr_at ?_ | refine geq_at ?_ | refine add_at (by omega) (by omega) ?_ | refine sub_at (by omega) (by omega) ?_ | refine not_at ?_ | refine kO_at ?_ | refine kprt_at rfl ?_ | refine kprtN_at rfl ?_ | refine kcap_at ?_ | refine klenStr_at ?_ | refine kN_iat ?_ | refine kN_fat ?_ | refine kIf_T (by first | exact rfl | exact decT (by omega) | exact notT (decF (by omega))) ?_ | refine kIf_F (by first | exact rfl | exact decF (by omega) | exact notF (decT (by omega))) ?_)
  exact ⟨rfl, rfl⟩
end Go.Proofs.YtlkpadfkmdgjcaaGreatDoor
end
section
set_option linter.unusedSimpArgs false
set_option linter.unusedVariables false
namespace Go.Proofs.YtlkpadfkmdgjcaaGreatDoor
open Go Go.Ev
set_option linter.unusedVariables false
set_option linter.unusedSimpArgs false
set_option maxRecDepth 100000
attribute [local irreducible] kO kB kStr kInt kN kG kIf kfld kld kldN kst knew kmap kbld kbldS kext kcnv klenStr klen kcap kprt kprtN kbool kint kstr keq kun ksl kix kiv kta kmk kmm ksem ksemU kextf kcallV kcallM kcall kL

/-! ### Where there is no room -/
theorem spawn_full {pr : Nat → Prop} {Sa : Nat → Addr} {o : Lab} {w : World} (hL : LaidP pr Sa w) (h6 : pr 6) {b : Nat} {p : Ptrs} {S : SM} (h : StoreP o w b p S) (hfree : S.free = [])
    {L : List Part} {a : Option Addr} {c : Nat} (hs : SlIs w a L.length 6 (L.flatMap Part.cells)) (hn : L.length ≤ 1000000) (hf : ∀ q ∈ L, FitsP S.cs q) (hnt : NoTwice L) :
    Meets Tryz.prog 14 #[ptrV b, .slice a L.length c] w fun v w' => ∃ x, v = .tuple #[entV 0 0, x] ∧ ErrX Sa 6 w.heap.size x w' ∧ Same w w' := by
  refine f14_ok ?_
  unfold f14
  refine knew_of fun w2 hm2 hs2 hb2 => ?_
  have hP2 := h.same hm2
  rw [ptrV]
  rw [keq_ptr_nil ptSto]
  refine kB_at ?_
  refine kIf_F rfl ?_
  unfold f14_0
  refine kcall_of (sGathered_spec hP2 (hs.same hm2) hn hf hnt) ?_
  rintro v w12 ⟨sv, L', rfl, hL1, hL2, hL3, h12, hf12⟩
  have m12 := hm2.trans h12
  have hP12 := hP2.same h12
  have hb12 := h12.get hb2 (fun h => h)
  repeat (first | refine kN_at ?_ | refine kB_at ?_ | refine kfld_of ?_ | refine kext_at rfl ?_ | refine kG_of (by first | exact rfl | omega) ?_ | refine klen_at ?_ | refine eql_at ?_ | refine neq_at ?_ | refine lss_at ?_ | refine leq_at ?_ | refine gtr_at ?_ | refine geq_at ?_ | refine add_at (by omega) (by omega) ?_ | refine sub_at (by omega) (by omega) ?_ | refine not_at ?_ | refine kO_at ?_ | refine kprt_at rfl ?_ | refine kprtN_at rfl ?_ | refine kcap_at ?_ | refine klenStr_at ?_ | refine kN_iat ?_ | refine kN_fat ?_ | refine kIf_T (by first | exact rfl | exact decT (by omega) | exact notT (decF (by omega))) ?_ | refine kIf_F (by first | exact rfl | exact decF (by omega) | exact notF (decT (by omega))) ?_)
  rw [keq_nil_nil' ifErr]
  refine kB_at ?_
  refine kIf_F rfl ?_
  unfold f14_1
  have hh12 := hP12.here
  rw [ptrV] at hh12
  repeat (first | refine kN_at ?_ | refine kB_at ?_ | refine kfld_of ?_ | refine kext_at rfl ?_ | refine kld_at hh12 rfl ?_ | refine kldN_at hh12 rfl (by omega) ?_ | refine kG_of (by first | exact rfl | omega) ?_ | refine klen_at ?_ | refine eql_at ?_ | refine neq_at ?_ | refine lss_at ?_ | refine leq_at ?_ | refine gtr_at ?_ | refine geq_at ?_ | refine add_at (by omega) (by omega) ?_ | refine sub_at (by omega) (by omega) ?_ | refine not_at ?_ | refine kO_at ?_ | refine kprt_at rfl ?_ | refine kprtN_at rfl ?_ | refine kcap_at ?_ | refine klenStr_at ?_ | refine kN_iat ?_ | refine kN_fat ?_ | refine kIf_T (by first | exact rfl | exact decT (by omega) | exact notT (decF (by omega))) ?_ | refine kIf_F (by first | exact rfl | exact decF (by omega) | exact notF (decT (by omega))) ?_)
  have hR := hP12.roll
  rw [hfree] at hR
  refine kcall_of (rTakeFull_spec (hL.same m12) h6 hR) ?_
  rintro v w24 ⟨x, rfl, hx, h24⟩
  have hb24 := h24.get hb12 (fun h => h)
  repeat (first | refine kN_at ?_ | refine kB_at ?_ | refine kfld_of ?_ | refine kext_at rfl ?_ | refine kG_of (by first | exact rfl | omega) ?_ | refine klen_at ?_ | refine eql_at ?_ | refine neq_at ?_ | refine lss_at ?_ | refine leq_at ?_ | refine gtr_at ?_ | refine geq_at ?_ | refine add_at (by omega) (by omega) ?_ | refine sub_at (by omega) (by omega) ?_ | refine not_at ?_ | refine kO_at ?_ | refine kprt_at rfl ?_ | refine kprtN_at rfl ?_ | refine kcap_at ?_ | refine klenStr_at ?_ | refine kN_iat ?_ | refine kN_fat ?_ | refine kIf_T (by first | exact rfl | exact decT (by omega) | exact notT (decF (by omega))) ?_ | refine kIf_F (by first | exact rfl | exact decF (by omega) | exact notF (decT (by omega))) ?_)
  refine knew_of fun w28 h28 hs28 hb28 => ?_
  refine kst_of (vs := [.int .i64 0, .int .i64 0]) hb28 rfl rfl rfl (by simp) (by simp) fun w29 h29 hs29 hb29 => ?_
  have m29 : Same w24 w29 := h28.trans' (h29.mono fun k _ e => .inr (by omega))
  have hx29 := hx.same m29
  have hb29 := m29.get hb24 (fun h => h)
  have hsz12 := m12.size
  have hsz24 := h24.size
  obtain ⟨t, y, rfl⟩ := hx.if
  rw [keq_if_nil' ifErr]
  refine kB_at ?_
  refine kIf_T rfl ?_
  refine kbld_of (cs := [.int .i64 0, .int .i64 0]) rfl ?_
  refine kcall_of (sWrong_spec hx29 (by have := m29.size; omega)) ?_
  rintro v w33 ⟨hx33, h33⟩
  refine kst_of (vs := [.int .i64 0, .int .i64 0]) (h33.get hb29 (fun h => h)) rfl rfl rfl (by simp) (by simp) fun w34 h34 hs34 hb34 => ?_
  have hb34 : blk w34 w.heap.size = some (.cells #[.int .i64 0, .int .i64 0] 37) := hb34
  have hs2' : w2.heap.size = w.heap.size + 1 := hs2
  have hz2 := h12.size
  repeat (first | refine kN_at ?_ | refine kB_at ?_ | refine kfld_of ?_ | refine kext_at rfl ?_ | refine kld_at hb34 rfl ?_ | refine kldN_at hb34 rfl (by omega) ?_ | refine kG_of (by first | exact rfl | omega) ?_ | refine klen_at ?_ | refine eql_at ?_ | refine neq_at ?_ | refine lss_at ?_ | refine leq_at ?_ | refine gtr_at ?_ | refine geq_at ?_ | refine add_at (by omega) (by omega) ?_ | refine sub_at (by omega) (by omega) ?_ | refine not_at ?_ | refine kO_at ?_ | refine kprt_at rfl ?_ | refine kprtN_at rfl ?_ | refine kcap_at ?_ | refine klenStr_at ?_ | refine kN_iat ?_ | refine kN_fat ?_ | refine kIf_T (by first | exact rfl | exact decT (by omega) | exact notT (decF (by omega))) ?_ | refine kIf_F (by first | exact rfl | exact decF (by omega) | exact notF (decT (by omega))) ?_)
  exact ⟨_, rfl, (hx33.mod h34 fun k h1 h2 e => by omega).mono (by omega), ((m12.trans h24).trans (m29.trans h33)).trans' (h34.mono fun k _ e => .inr (by omega))⟩
theorem sSpot_deadE {P : Nat → Prop} {Sa : Nat → Addr} {o : Lab} {w : World} (hL : LaidP P Sa w) (h17 : P 17) {b : Nat} {p : Ptrs} {S : SM} (h : StoreP o w b p S) {idx gen : Int} (hg : aliveF S.gens idx gen = false) : SpotErr Sa 17 (ptrV b) idx gen w :=
  fun w2 m2 => sSpot_dead (hL.same m2) h17 (h.same m2) hg
theorem sSpot_nilE {P : Nat → Prop} {Sa : Nat → Addr} {w : World} (hL : LaidP P Sa w) (h2 : P 2) (idx gen : Int) : SpotErr Sa 2 (.pointer none) idx gen w :=
  fun w2 m2 => sSpot_nil (hL.same m2) h2 idx gen
/-! ### '==' of entities -/
theorem cellsEnt : Tryz.prog.cellsOf 37 = 2 := by kernel_rfl
theorem kl_ent {i g : Int} (h1 : I64 i) (h2 : I64 g) (d : Nat) : Tryz.prog.keyLits (d + 2) 37 [.int .i64 i, .int .i64 g] = some [.int .i64 i, .int .i64 g] := by
  unfold Program.keyLits
  simp only [Tryz.underlying37, cellsEnt]
  rw [if_pos ⟨by rfl, by kernel_rfl⟩]
  simp [cellsInt, kl_int h1, kl_int h2]
theorem keyEnt : Tryz.prog.keyTypeAt 10 37 = true := by kernel_rfl
theorem guardEnt : Tryz.prog.eqGuardType Tryz.prog.depth 37 = false := by kernel_rfl
theorem formEnt (i g : Int) : Value.formed Tryz.prog 37 (entV i g) = true := by
  unfold Value.formed entV
  simp only [Tryz.underlying37, cellsEnt]
  rfl
theorem keq_entE {i g j h : Int} (hi : I64 i) (hg : I64 g) (hj : I64 j) (hh : I64 h) {w : World} {K : Value → World → Prop} {cx cy : Bool} :
    keq Tryz.prog .eql 37 cx cy (entV i g) (entV j h) w K = K (.bool (decide (i = j ∧ g = h))) w := by
  obtain ⟨r, hr, hiff⟩ := run_equalIn_deep (P := Tryz.prog) 9990 10 37 keyEnt w 2 2 (entV i g) (entV j h) _ _ (formEnt i g) (formEnt j h) (kl_ent hi hg 0) (kl_ent hj hh 0)
  have hr2 : r = decide (i = j ∧ g = h) := by
    rw [Bool.eq_iff_iff, hiff, decide_eq_true_eq]
    simp
  rw [hr2] at hr
  unfold entV at hr ⊢
  simp only [keq, eqW, semV, Sem.run_bind, run_eqGuard_agg w .eql 37 _ _ #[.int .i64 i, .int .i64 g] #[.int .i64 j, .int .i64 h] guardEnt, Result.andThen_ok, run_eql_struct]
  rw [show (10000 : Nat) = 9990 + 10 from rfl, hr]
  rfl
end Go.Proofs.YtlkpadfkmdgjcaaGreatDoor
end
section
set_option linter.unusedSimpArgs false
set_option linter.unusedVariables false
namespace Go.Proofs.YtlkpadfkmdgjcaaGreatDoor
open Go Go.Ev
set_option linter.unusedVariables false
set_option linter.unusedSimpArgs false
set_option maxRecDepth 100000

/-! ### An entity goes -/
def goneS (S : SM) (i : Nat) (g : Int) : SM := { S with gens := S.gens.set i (g, false), free := S.free ++ [i] }
theorem WFe.gone {S : SM} {i : Nat} (h : WFe S (· = i)) {g : Int} (hg : S.gens[i]? = some (g, true)) : WF (goneS S i g) ∧ ∀ j, partsOf (goneS S i g) j = partsOf S j := by
  have hil := (List.getElem?_eq_some_iff.1 hg).1
  have hne : ∀ j, j ≠ i → (S.gens.set i (g, false))[j]? = S.gens[j]? := fun j hj => by rw [List.getElem?_set_ne (fun e => hj e.symm)]
  refine ⟨⟨by show (S.gens.set i _).length = _; rw [List.length_set]; exact h.gs, fun j gj hgj _ => ?_, fun n T r e hT hr => ?_, h.cols⟩, fun j => rfl⟩
  · have hgj : (S.gens.set i (g, false))[j]? = some (gj, true) := hgj
    by_cases hj : j = i
    · subst hj
      rw [List.getElem?_set, if_pos rfl, if_pos hil] at hgj
      cases hgj
    · rw [hne j hj] at hgj
      exact h.live j gj hgj hj
  · obtain ⟨j, e1, e2, e3, e4⟩ := h.rows n T r e hT hr
    exact ⟨j, e1, fun h => h, by show (S.gens.set i (g, false))[j]? = _; rw [hne j e2]; exact e3, e4⟩
theorem FreeOk.gone {S : SM} (h : FreeOk S) {i : Nat} {g : Int} (hg : S.gens[i]? = some (g, true)) : FreeOk (goneS S i g) := by
  have hil := (List.getElem?_eq_some_iff.1 hg).1
  have hni : i ∉ S.free := fun hm => by
    obtain ⟨g', e⟩ := (h.2 i).1 hm
    rw [hg] at e; cases e
  refine ⟨List.nodup_append.2 ⟨h.1, by simp, fun a ha b hb e => by simp at hb; subst hb; subst e; exact hni ha⟩, fun j => ?_⟩
  show j ∈ S.free ++ [i] ↔ ∃ g', (S.gens.set i (g, false))[j]? = some (g', false)
  by_cases hj : j = i
  · subst hj
    rw [List.getElem?_set, if_pos rfl, if_pos hil]
    exact ⟨fun _ => ⟨g, rfl⟩, fun _ => by simp⟩
  · rw [List.getElem?_set_ne (fun e => hj e.symm), ← h.2 j]
    simp [hj]
end Go.Proofs.YtlkpadfkmdgjcaaGreatDoor
end
section
set_option linter.unusedSimpArgs false
set_option linter.unusedVariables false
namespace Go.Proofs.YtlkpadfkmdgjcaaGreatDoor
open Go Go.Ev
set_option linter.unusedVariables false
set_option linter.unusedSimpArgs false
set_option maxRecDepth 100000
attribute [local irreducible] kO kB kStr kInt kN kG kIf kfld kld kldN kst knew kmap kbld kbldS kext kcnv klenStr klen kcap kprt kprtN kbool kint kstr keq kun ksl kix kiv kta kmk kmm ksem ksemU kextf kcallV kcallM kcall kL

/-- As Turned, and the blocks of X are none of the store's. -/
def TurnedX (X : Nat → Prop) (o : Lab) (w : World) (b : Nat) (S' : SM) (w' : World) : Prop := ∃ o' p', LabEq w o o' ∧ StoreP o' w' b p' S' ∧ Mod (FP o fun _ => True) w w' ∧ (∀ k, w'.heap.size ≤ k → o' k = none) ∧ ∀ k, X k → o' k = none
theorem TurnedX.t {X : Nat → Prop} {o : Lab} {w w' : World} {b : Nat} {S' : SM} (h : TurnedX X o w b S' w') : Turned o w b S' w' := by
  obtain ⟨o', p', h1, h2, h3, h4, _⟩ := h
  exact ⟨o', p', h1, h2, h3, h4⟩
theorem TurnedX.wrap {X : Nat → Prop} {o : Lab} {w w4 w5 w6 : World} {b : Nat} {S' : SM} (m : Same w w4) (t : TurnedX X (cutL o w.heap.size) w4 b S' w5) (hz : Mod (fun k => w.heap.size ≤ k ∧ k < w4.heap.size) w5 w6) : TurnedX X o w b S' w6 := by
  obtain ⟨o', p', hl, hP, hm, hc, hx⟩ := t
  have ml := m.size
  have hl' : LabEq w o (cutL o' w6.heap.size) := fun k hk => by
    have := hm.size
    have := hz.size
    have e := hl k (by omega)
    unfold cutL at *
    rw [if_pos (by omega), e, if_pos hk]
  refine ⟨cutL o' w6.heap.size, p', hl', hP.frame hz (fun k t e ⟨e1, e2⟩ => ?_) (fun k hk => ?_), ((Mod.of_same m).trans (hm.mono fun k _ hk => hk.cut.1)).trans' (hz.mono fun k _ hk => .inr hk.1), fun k hk => cutL_none hk, fun k hk => ?_⟩
  · rw [hl k e2] at e
    rw [cutL_none e1] at e; cases e
  · have := hz.size
    unfold cutL
    rw [if_pos (by omega)]
  · unfold cutL
    split
    · exact hx k hk
    · rfl
theorem TurnedX.seq {X : Nat → Prop} {o o1 : Lab} {w w1 w2 w3 : World} {b : Nat} {S' : SM} (hl : LabEq w o o1) (hm : Mod (FP o fun _ => True) w w1) (m : Same w1 w2) (t : TurnedX X o1 w2 b S' w3) : TurnedX X o w b S' w3 := by
  obtain ⟨o', p', hl', hP, hm', hc, hx⟩ := t
  have hm2 := hm.trans (Mod.of_same m)
  exact ⟨o', p', hl.trans hl' hm2.size, hP, Mod.labs hm2 hl hm', hc, hx⟩
theorem despawn_at {o : Lab} {w : World} {b : Nat} {p : Ptrs} {S : SM} (h : StoreP o w b p S) {t : Nat} (hG : GS S t) {i : Nat} {g : Int} (hg : S.gens[i]? = some (g, true)) (hfl : S.free.length < S.gens.length) :
    Meets Tryz.prog 27 #[ptrV b, entV i g] w fun v w' => ∃ sv, v = .tuple #[sv, .nilIface] ∧ Own w' sv 6 ((partsOf S i).flatMap Part.cells) ∧ (∀ k, vblk sv k → w.heap.size ≤ k) ∧ ∃ S', GS S' t ∧ S'.gens = S.gens.set i (g, false) ∧ S'.free = S.free ++ [i] ∧ S'.cs = S.cs ∧ S'.masks = S.masks ∧ S'.tabs.length = S.tabs.length ∧
      (∀ j gj, j ≠ i → S.gens[j]? = some (gj, true) → partsOf S' j = partsOf S j) ∧ TurnedX (vblk sv) o w b S' w' := by
  obtain ⟨n, r, hs, hn, hr, hri, m, gm, hl, hm, hsm⟩ := hG.wf.stand hg (fun h => h)
  obtain ⟨w4, v4⟩ := WFe.leave hG.wf hs hn hr hri hl hm hsm
  obtain ⟨w5, v5⟩ := w4.gone (show (leaveS S n r m hn).gens[i]? = _ from hg)
  have hrl := hG.wf.rows_le (List.getElem?_eq_getElem hn)
  have hgs := hG.wf.gs
  have h64 := hG.g64
  have hpe := partsOf_eq hs (List.getElem?_eq_getElem hn)
  rw [ptrV]
  refine f27_ok ?_
  unfold f27
  refine knew_of fun w2 hm2 hs2 hb2 => ?_
  have hb2 : blk w2 w.heap.size = some (.cells #[.int .i64 i, .int .i64 g] 37) := hb2
  repeat (first | refine kN_at ?_ | refine kB_at ?_ | refine kfld_of ?_ | refine kext_at rfl ?_ | refine kld_at hb2 rfl ?_ | refine kldN_at hb2 rfl (by omega) ?_ | refine kG_of (by first | exact rfl | omega) ?_ | refine klen_at ?_ | refine eql_at ?_ | refine neq_at ?_ | refine lss_at ?_ | refine leq_at ?_ | refine gtr_at ?_ | refine geq_at ?_ | refine add_at (by omega) (by omega) ?_ | refine sub_at (by omega) (by omega) ?_ | refine not_at ?_ | refine kO_at ?_ | refine kprt_at rfl ?_ | refine kprtN_at rfl ?_ | refine kcap_at ?_ | refine klenStr_at ?_ | refine kN_iat ?_ | refine kN_fat ?_ | refine kIf_T (by first | exact rfl | exact decT (by omega) | exact notT (decF (by omega))) ?_ | refine kIf_F (by first | exact rfl | exact decF (by omega) | exact notF (decT (by omega))) ?_)
  refine kcall_of (sSpot_spec (h.same hm2) hg hs) ?_
  rintro v wc ⟨rfl, hc⟩
  repeat (first | refine kN_at ?_ | refine kB_at ?_ | refine kfld_of ?_ | refine kext_at rfl ?_ | refine kG_of (by first | exact rfl | omega) ?_ | refine klen_at ?_ | refine eql_at ?_ | refine neq_at ?_ | refine lss_at ?_ | refine leq_at ?_ | refine gtr_at ?_ | refine geq_at ?_ | refine add_at (by omega) (by omega) ?_ | refine sub_at (by omega) (by omega) ?_ | refine not_at ?_ | refine kO_at ?_ | refine kprt_at rfl ?_ | refine kprtN_at rfl ?_ | refine kcap_at ?_ | refine klenStr_at ?_ | refine kN_iat ?_ | refine kN_fat ?_ | refine kIf_T (by first | exact rfl | exact decT (by omega) | exact notT (decF (by omega))) ?_ | refine kIf_F (by first | exact rfl | exact decF (by omega) | exact notF (decT (by omega))) ?_)
  refine knew_of fun w9 h9 hs9 hb9 => ?_
  refine kst_of (vs := [natV n, natV r]) hb9 rfl rfl rfl (by simp) (by simp) fun w10 h10 hs10 hb10 => ?_
  have hszc := hc.size
  have m10 : Same w w10 := ((hm2.trans hc).trans h9).trans' (h10.mono fun k _ e => .inr (by omega))
  have he10 := (hc.trans (h9.trans' (h10.mono fun k _ e => .inr (by omega)) : Same wc w10)).get hb2 (fun h => h)
  rw [keq_nil_nil' ifErr]
  refine kB_at ?_
  refine kIf_F rfl ?_
  unfold f27_0
  repeat (first | refine kN_at ?_ | refine kB_at ?_ | refine kfld_of ?_ | refine kext_at rfl ?_ | refine kld_at he10 rfl ?_ | refine kldN_at he10 rfl (by omega) ?_ | refine kG_of (by first | exact rfl | omega) ?_ | refine klen_at ?_ | refine eql_at ?_ | refine neq_at ?_ | refine lss_at ?_ | refine leq_at ?_ | refine gtr_at ?_ | refine geq_at ?_ | refine add_at (by omega) (by omega) ?_ | refine sub_at (by omega) (by omega) ?_ | refine not_at ?_ | refine kO_at ?_ | refine kprt_at rfl ?_ | refine kprtN_at rfl ?_ | refine kcap_at ?_ | refine klenStr_at ?_ | refine kN_iat ?_ | refine kN_fat ?_ | refine kIf_T (by first | exact rfl | exact decT (by omega) | exact notT (decF (by omega))) ?_ | refine kIf_F (by first | exact rfl | exact decF (by omega) | exact notF (decT (by omega))) ?_)
  have hP10 := h.cut m10
  refine kcall_of (sLeave_spec hP10 (g := g) (gm := gm) hs hn hr (fun c hc => hG.wf.cols n _ c (List.getElem?_eq_getElem hn) hc) hl hm (by omega)) ?_
  rintro v w15 ⟨sv, rfl, hO, hf, hP15, hm15⟩
  have hsz2 := hm2.size
  have hsz10 := m10.size
  have hsz15 := hm15.size
  have he15 := hm15.get he10 (fun ⟨t, e1, _⟩ => by rw [cutL_none (Nat.le_refl _)] at e1; cases e1)
  repeat (first | refine kN_at ?_ | refine kB_at ?_ | refine kfld_of ?_ | refine kext_at rfl ?_ | refine kG_of (by first | exact rfl | omega) ?_ | refine klen_at ?_ | refine eql_at ?_ | refine neq_at ?_ | refine lss_at ?_ | refine leq_at ?_ | refine gtr_at ?_ | refine geq_at ?_ | refine add_at (by omega) (by omega) ?_ | refine sub_at (by omega) (by omega) ?_ | refine not_at ?_ | refine kO_at ?_ | refine kprt_at rfl ?_ | refine kprtN_at rfl ?_ | refine kcap_at ?_ | refine klenStr_at ?_ | refine kN_iat ?_ | refine kN_fat ?_ | refine kIf_T (by first | exact rfl | exact decT (by omega) | exact notT (decF (by omega))) ?_ | refine kIf_F (by first | exact rfl | exact decF (by omega) | exact notF (decT (by omega))) ?_)
  rw [keq_nil_nil' ifErr]
  refine kB_at ?_
  refine kIf_F rfl ?_
  unfold f27_1
  have md : Same w15 w15.drew := (Mod.refl (fun _ => False) _).drew
  have hPd := hP15.same md
  have hed := md.get he15 (fun h => h)
  have hOd := hO.same md
  have hsd : w15.drew.heap.size = w15.heap.size := rfl
  generalize w15.drew = wd at *
  have hbd := hPd.here
  repeat (first | refine kN_at ?_ | refine kB_at ?_ | refine kfld_of ?_ | refine kext_at rfl ?_ | refine kld_at hbd rfl ?_ | refine kld_at hed rfl ?_ | refine kldN_at hbd rfl (by omega) ?_ | refine kldN_at hed rfl (by omega) ?_ | refine kG_of (by first | exact rfl | omega) ?_ | refine klen_at ?_ | refine eql_at ?_ | refine neq_at ?_ | refine lss_at ?_ | refine leq_at ?_ | refine gtr_at ?_ | refine geq_at ?_ | refine add_at (by omega) (by omega) ?_ | refine sub_at (by omega) (by omega) ?_ | refine not_at ?_ | refine kO_at ?_ | refine kprt_at rfl ?_ | refine kprtN_at rfl ?_ | refine kcap_at ?_ | refine klenStr_at ?_ | refine kN_iat ?_ | refine kN_fat ?_ | refine kIf_T (by first | exact rfl | exact decT (by omega) | exact notT (decF (by omega))) ?_ | refine kIf_F (by first | exact rfl | exact decF (by omega) | exact notF (decT (by omega))) ?_)
  refine kcall_of (rFree_spec hPd.roll (show (leaveS S n r m hn).gens[i]? = _ from hg) hfl) ?_
  rintro v w24 ⟨rfl, o5, hl5, hR5, hm5⟩
  have hP24 := hPd.setRoll hl5 hm5 hR5
  have hsv : ∀ k, vblk sv k → cutL (cutL o w.heap.size) w10.heap.size k = none := fun k hk => cutL_none (hf k hk)
  refine ⟨sv, rfl, ?_, fun k hk => by have := hf k hk; omega, goneS (leaveS S n r m hn) i g, ⟨w5, hG.fr.gone hg, fun j x hx => ?_, hG.ml, ?_⟩, rfl, rfl, rfl, rfl, ?_, fun j gj hj hgj => ?_, ?_⟩
  · rw [hpe]
    exact hOd.mod hm5 fun k hk ⟨t, e1, _⟩ => by rw [hsv k hk] at e1; cases e1
  · have hx : (S.gens.set i (g, false))[j]? = some x := hx
    have hil := (List.getElem?_eq_some_iff.1 hg).1
    by_cases hj : j = i
    · subst hj
      rw [List.getElem?_set, if_pos rfl, if_pos hil] at hx
      cases hx
      have := hG.gen j _ hg
      simpa using this
    · rw [List.getElem?_set_ne (fun e => hj e.symm)] at hx
      exact hG.gen j x hx
  · show (S.gens.set i _).length ≤ 64
    rw [List.length_set]; exact h64
  · show (List.set _ _ _).length = _
    rw [List.length_set]
  · exact (v5 j).trans (v4 j gj hj hgj)
  · refine TurnedX.wrap m10 ?_ (Mod.refl _ _)
    refine TurnedX.seq (o1 := cutL (cutL o w.heap.size) w10.heap.size) (w1 := w15) (LabEq.cut w10 _) hm15 md ?_
    refine ⟨cutL o5 w24.heap.size, p, hl5.trans (LabEq.cut w24 o5) hm5.size, hP24.frame (Mod.refl (fun _ => False) _) (fun _ _ _ h => h) (LabEq.cut w24 o5), hm5.mono fun k _ hk => FP.mono (fun _ _ => trivial) hk, fun k hk => cutL_none hk, fun k hk => ?_⟩
    have hkl := hOd.vblk_lt hk
    unfold cutL
    split
    · rw [hl5 k hkl]; exact hsv k hk
    · rfl
end Go.Proofs.YtlkpadfkmdgjcaaGreatDoor
end
section
set_option linter.unusedSimpArgs false
set_option linter.unusedVariables false
namespace Go.Proofs.YtlkpadfkmdgjcaaGreatDoor
open Go Go.Ev
set_option linter.unusedVariables false
set_option linter.unusedSimpArgs false
set_option maxRecDepth 100000

/-! ### A part more, and then less (plain) -/
def SortP (L : List Part) : Prop := L.Pairwise (fun x y => x.comp ≤ y.comp)
theorem nt_inj : ∀ {A : List Part}, NoTwice A → ∀ x ∈ A, ∀ y ∈ A, x.comp = y.comp → x = y
  | [], _, x, hx, _, _, _ => by cases hx
  | a :: A, h, x, hx, y, hy, e => by
    have h' := List.nodup_cons.1 (show (a.comp :: A.map (·.comp)).Nodup from h)
    rcases List.mem_cons.1 hx with hxa | hxA
    · rcases List.mem_cons.1 hy with hya | hyA
      · rw [hxa, hya]
      · exact absurd (show a.comp ∈ A.map (·.comp) from List.mem_map.2 ⟨y, hyA, by rw [← hxa]; exact e.symm⟩) h'.1
    · rcases List.mem_cons.1 hy with hya | hyA
      · exact absurd (show a.comp ∈ A.map (·.comp) from List.mem_map.2 ⟨x, hxA, by rw [← hya]; exact e⟩) h'.1
      · exact nt_inj h'.2 x hxA y hyA e
theorem sorted_unique {A B : List Part} (hp : A.Perm B) (hA : SortP A) (hB : SortP B) (hn : NoTwice A) : A = B :=
  List.Perm.eq_of_pairwise (le := fun x y : Part => x.comp ≤ y.comp) (fun a b ha hb h1 h2 => nt_inj hn a ha b (hp.mem_iff.2 hb) (by omega)) hA hB hp
theorem NoTwice.filter {L : List Part} (h : NoTwice L) (p : Part → Bool) : NoTwice (L.filter p) :=
  List.Nodup.sublist (List.Sublist.map _ List.filter_sublist) h
theorem sort_of_comps {L : List Part} {m : Nat} (h : L.map (·.comp) = (listF m).map (fun c : Nat => (c : Int))) : SortP L ∧ NoTwice L := by
  constructor
  · have : (L.map (·.comp)).Pairwise (fun x y : Int => x ≤ y) := by
      rw [h, List.pairwise_map]
      exact (listF_sorted m).imp (fun h => by omega)
    rwa [List.pairwise_map] at this
  · unfold NoTwice
    rw [h]
    unfold List.Nodup
    rw [List.pairwise_map]
    exact (listF_nodup _).imp (fun h e => h (by omega))
theorem partsL_sort {m v : Nat} (hm : m < 256) : SortP (partsL m v 8) := (sort_of_comps (partsL_comps hm)).1
theorem partsL_of {m v : Nat} (hm : m < 256) {L' : List Part} (hp : L'.Perm (partsL m v 8)) (hs : L'.Pairwise (fun x y => x.comp ≤ y.comp)) : L' = partsL m v 8 :=
  (sorted_unique hp.symm (partsL_sort hm) hs (partsL_nt hm)).symm
theorem partsL_ok {m v k : Nat} (hv : v ≤ 1000000) (hk : k ≤ 32) : ∀ q ∈ partsL m v k, q.ok := by
  intro q hq
  obtain ⟨i, hi, rfl⟩ := List.mem_map.1 hq
  have hi : i < k := by simpa using (List.mem_filter.1 hi).1
  unfold partQ Part.ok I64
  simp only
  omega
end Go.Proofs.YtlkpadfkmdgjcaaGreatDoor
end
section
set_option linter.unusedSimpArgs false
set_option linter.unusedVariables false
namespace Go.Proofs.YtlkpadfkmdgjcaaGreatDoor
open Go Go.Ev
set_option linter.unusedVariables false
set_option linter.unusedSimpArgs false
set_option maxRecDepth 100000
attribute [local irreducible] kO kB kStr kInt kN kG kIf kfld kld kldN kst knew kmap kbld kbldS kext kcnv klenStr klen kcap kprt kprtN kbool kint kstr keq kun ksl kix kiv kta kmk kmm ksem ksemU kextf kcallV kcallM kcall kL

end Go.Proofs.YtlkpadfkmdgjcaaGreatDoor
end
section
set_option linter.unusedSimpArgs false
set_option linter.unusedVariables false
namespace Go.Proofs.YtlkpadfkmdgjcaaGreatDoor
open Go Go.Ev
set_option linter.unusedVariables false
set_option linter.unusedSimpArgs false
set_option maxRecDepth 100000
attribute [local irreducible] kO kB kStr kInt kN kG kIf kfld kld kldN kst knew kmap kbld kbldS kext kcnv klenStr klen kcap kprt kprtN kbool kint kstr keq kun ksl kix kiv kta kmk kmm ksem ksemU kextf kcallV kcallM kcall kL

/-! ### StoreFull, walked -/
theorem Cur.turnX {X : Nat → Prop} {w0 : World} {o : Lab} {w w' : World} {b : Nat} {p : Ptrs} {S S' : SM} {t t' : Nat} (h : Cur w0 o w b p S t) (T : TurnedX X o w b S' w') (hG : GS S' t') : ∃ o' p', Cur w0 o' w' b p' S' t' ∧ (∀ k, k < w.heap.size → o k = none → o' k = none) ∧ Mod (fun k => o k ≠ none) w w' ∧ ∀ k, X k → o' k = none := by
  obtain ⟨o', p', hl, hP, hm, hc, hx⟩ := T
  have hs := h.same.size
  have hm' : Mod (fun k => o k ≠ none) w w' := hm.mono fun k _ ⟨t, e, _⟩ => by rw [e]; simp
  refine ⟨o', p', ⟨hP, hG, fun k hk => by rw [hl k (by omega)]; exact h.lo k hk, hc, h.same.trans' (hm'.mono fun k _ e => .inr ?_)⟩, fun k hk e => by rw [hl k hk]; exact e, hm', hx⟩
  rcases Nat.lt_or_ge k w0.heap.size with hk | hk
  · exact absurd (h.lo k hk) e
  · exact hk
theorem Cur.turnN {w0 : World} {o : Lab} {w w' : World} {b : Nat} {p : Ptrs} {S S' : SM} {t t' : Nat} (h : Cur w0 o w b p S t) (T : Turned o w b S' w') (hG : GS S' t') : ∃ o' p', Cur w0 o' w' b p' S' t' ∧ (∀ k, k < w.heap.size → o k = none → o' k = none) ∧ Mod (fun k => o k ≠ none) w w' := by
  obtain ⟨o', p', C, hl, hm⟩ := h.turn T hG
  exact ⟨o', p', C, fun k hk e => by rw [hl k hk]; exact e, hm⟩
theorem Cur.mod {w0 : World} {o : Lab} {w w2 : World} {b : Nat} {p : Ptrs} {S : SM} {t : Nat} (h : Cur w0 o w b p S t) {fp : Nat → Prop} (m : Mod fp w w2) (hf : ∀ k, fp k → o k = none) (hlo : ∀ k, fp k → w0.heap.size ≤ k) : Cur w0 o w2 b p S t :=
  ⟨h.sp.frame m (fun k t e hk => by rw [hf k hk] at e; cases e) (LabEq.refl _ _), h.gs, h.lo, fun k hk => h.hi k (Nat.le_trans m.size hk), h.same.trans' (m.mono fun k _ e => .inr (hlo k e))⟩
theorem idx65 (n : Int) : ∃ c : Nat, c < 65 ∧ IntKind.i64.wrap ((IntKind.u64.wrap n).tmod 65) = (c : Int) := by
  have h0 : 0 ≤ IntKind.u64.wrap n := by
    simp [IntKind.wrap, IntKind.signed, IntKind.bits]
    omega
  refine ⟨((IntKind.u64.wrap n).tmod 65).toNat, ?_, ?_⟩
  · rw [Int.tmod_eq_emod_of_nonneg h0]
    omega
  · rw [Int.tmod_eq_emod_of_nonneg h0]
    generalize IntKind.u64.wrap n = z at *
    rw [wrap_i64 (by omega) (by omega)]
    omega
/-- The entities 0, 1, .. of generation 1. -/
def entL (j : Nat) : List (Int × Int) := (List.range j).map fun i : Nat => ((i : Int), (1 : Int))
theorem entL_len (j : Nat) : (entL j).length = j := by simp [entL]
theorem entL_get {j i : Nat} (h : i < (entL j).length) : (entL j)[i] = ((i : Int), (1 : Int)) := by simp [entL]
theorem entL_succ (j : Nat) : entL (j + 1) = entL j ++ [((j : Int), (1 : Int))] := by simp [entL, List.range_succ]
theorem dead_of {gens : List (Int × Bool)} {i : Nat} {g : Int} (h : i < gens.length) (g' : Int) : aliveF (gens.set i (g, false)) i g' = false := by
  unfold aliveF
  rw [Int.toNat_natCast, List.getElem?_set, if_pos rfl, if_pos h]
  simp
theorem full_end {pr : Nat → Prop} {Sa : Nat → Addr} {w0 w : World} (hL : LaidP pr Sa w0) (h2 : pr 2) (hm : Same w0 w) : f5_11 (fun v w' => v = .bool true ∧ Same w0 w') w := by
  unfold f5_11
  refine kcall_of (sSpawn_nil (hL.same hm) h2 _) ?_
  rintro v w2 ⟨x, rfl, hx, m2⟩
  repeat (first | refine kN_at ?_ | refine kB_at ?_ | refine kfld_of ?_ | refine kext_at rfl ?_ | refine kG_of (by first | exact rfl | omega) ?_ | refine klen_at ?_ | refine eql_at ?_ | refine neq_at ?_ | refine lss_at ?_ | refine leq_at ?_ | refine gtr_at ?_ | refine geq_at ?_ | refine add_at (by omega) (by omega) ?_ | refine sub_at (by omega) (by omega) ?_ | refine not_at ?_ | refine kO_at ?_ | refine kprt_at rfl ?_ | refine kprtN_at rfl ?_ | refine kcap_at ?_ | refine klenStr_at ?_ | refine kN_iat ?_ | refine kN_fat ?_ | refine kIf_T (by first | exact rfl | exact decT (by omega) | exact notT (decF (by omega))) ?_ | refine kIf_F (by first | exact rfl | exact decF (by omega) | exact notF (decT (by omega))) ?_)
  refine knew_of fun w4 h4 hs4 hb4 => ?_
  refine kst_of (vs := [.int .i64 0, .int .i64 0]) hb4 rfl rfl rfl (by simp) (by simp) fun w5 h5 hs5 hb5 => ?_
  have m5 : Same w2 w5 := h4.trans' (h5.mono fun k _ e => .inr (by omega))
  have mm5 := (hm.trans m2).trans m5
  have hx5 := hx.same m5
  refine kbld_of (cs := [.int .i64 0, .int .i64 0]) rfl ?_
  refine kcall_of (sParts_err (sSpot_nilE (hL.same mm5) h2 0 0)) ?_
  rintro v w7 ⟨y, rfl, hy, m7⟩
  repeat (first | refine kN_at ?_ | refine kB_at ?_ | refine kfld_of ?_ | refine kext_at rfl ?_ | refine kG_of (by first | exact rfl | omega) ?_ | refine klen_at ?_ | refine eql_at ?_ | refine neq_at ?_ | refine lss_at ?_ | refine leq_at ?_ | refine gtr_at ?_ | refine geq_at ?_ | refine add_at (by omega) (by omega) ?_ | refine sub_at (by omega) (by omega) ?_ | refine not_at ?_ | refine kO_at ?_ | refine kprt_at rfl ?_ | refine kprtN_at rfl ?_ | refine kcap_at ?_ | refine klenStr_at ?_ | refine kN_iat ?_ | refine kN_fat ?_ | refine kIf_T (by first | exact rfl | exact decT (by omega) | exact notT (decF (by omega))) ?_ | refine kIf_F (by first | exact rfl | exact decF (by omega) | exact notF (decT (by omega))) ?_)
  have mm7 := mm5.trans m7
  refine kld_err (hL.same mm7) (k := 2) h2 rfl rfl ?_
  refine kcall_of (isX_spec (hL.same mm7) h2 h2 (hx5.same m7)) ?_
  rintro v w9 ⟨rfl, rfl⟩
  rw [decT rfl]
  refine kB_at ?_
  refine kIf_T rfl ?_
  refine kld_err (hL.same mm7) (k := 2) h2 rfl rfl ?_
  refine kcall_of (isX_spec (hL.same mm7) h2 h2 hy) ?_
  rintro v w11 ⟨rfl, rfl⟩
  rw [decT rfl]
  refine kB_at ?_
  refine kIf_T rfl ?_
  refine kbld_of (cs := [.int .i64 0, .int .i64 0]) rfl ?_
  refine kcall_of (sAlive_nil _ 0 0) ?_
  rintro v w13 ⟨rfl, m13⟩
  refine not_at ?_
  refine kB_at ?_
  refine kIf_T rfl ?_
  refine kcall_of (sCount_nil _) ?_
  rintro v w15 ⟨rfl, rfl⟩
  refine kcall_of (sTables_nil _) ?_
  rintro v w17 ⟨rfl, rfl⟩
  refine add_at (by omega) (by omega) ?_
  refine kcall_of (sMatch_nil _ _ _) ?_
  rintro v w19 ⟨rfl, rfl⟩
  refine klen_at ?_
  refine add_at (by omega) (by omega) ?_
  refine kcall_of (sChanged_nil _ _ _) ?_
  rintro v w21 ⟨rfl, rfl⟩
  refine klen_at ?_
  refine add_at (by omega) (by omega) ?_
  refine eql_at ?_
  exact ⟨rfl, mm7.trans m13⟩
end Go.Proofs.YtlkpadfkmdgjcaaGreatDoor
end
section
set_option linter.unusedSimpArgs false
set_option linter.unusedVariables false
namespace Go.Proofs.YtlkpadfkmdgjcaaGreatDoor
open Go Go.Ev
set_option linter.unusedVariables false
set_option linter.unusedSimpArgs false
set_option maxRecDepth 100000
attribute [local irreducible] kO kB kStr kInt kN kG kIf kfld kld kldN kst knew kmap kbld kbldS kext kcnv klenStr klen kcap kprt kprtN kbool kint kstr keq kun ksl kix kiv kta kmk kmm ksem ksemU kextf kcallV kcallM kcall kL

theorem quo2 (n : Nat) (h : n < 65) : IntKind.i64.wrap (((n : Nat) : Int).tdiv 2) = ((n / 2 : Nat) : Int) := by
  rw [Int.tdiv_eq_ediv_of_nonneg (by omega), wrap_i64 (by omega) (by omega)]
  omega
theorem full_mid {pr : Nat → Prop} {Sa : Nat → Addr} {w0 w1 : World} (hD : DeAt w0) (hL : LaidP pr Sa w0) (h2 : pr 2) (h17 : pr 17) {n m m0 : Nat} (hn : n < 65) (hm : m < 256) (hm0 : m0 < 4294967296) (em : m0 &&& 255 = m)
    {o : Lab} {b : Nat} {p : Ptrs} {S : SM} {t : Nat} (C : Cur w0 o w1 b p S t) (ht : t ≤ 9000) (hcs : S.cs = wideC) (hfr : S.free = []) (hgl : S.gens.length = n) (hgn : ∀ i, i < n → S.gens[i]? = some (1, true)) (hpm : ∀ i, i < n → partsOf S i = partsL m i 8)
    {a : Option Addr} {c : Nat} (hO : Own w1 (.slice a (entL n).length c) 2 ((entL n).flatMap entC)) (hOl : ∀ k, vblk (.slice a (entL n).length c) k → o k = none) :
    f5_9 (.int .u32 m0) (.int .i64 n) (.pointer (some ⟨b, 0, none⟩)) (.slice a (entL n).length c) (fun v w' => v = .bool true ∧ Same w0 w') w1 := by
  have hDlt := hD.lt
  unfold f5_9
  refine gtr_at ?_
  refine kB_at ?_
  refine kIf_dec (fun hpos => ?_) (fun hz => full_end hL h2 C.same)
  obtain ⟨_, _, _, e0, hs, _⟩ := hO.is
  cases e0
  have hq2 := quo2 n hn
  have hh : n / 2 < n := by omega
  generalize n / 2 = h at *
  have hhl : h < (entL n).length := by rw [entL_len]; exact hh
  have hel := entL_get hhl
  rw [kint_quo]
  refine kG_of (by decide) ?_
  rw [hq2]
  refine kixldN_of (F := entC) (sz := 2) (fun _ => rfl) (by omega) hs hhl rfl ?_
  rw [hel]
  refine kcall_of (despawn_at C.sp C.gs (i := h) (g := 1) (hgn h hh) (by rw [hfr, hgl]; show 0 < n; omega)) ?_
  rintro v w69 ⟨sv, rfl, hOv, hfv, S1, hG1, hgens, hfree, hcs1, hmk, htb, hoth, T1⟩
  obtain ⟨o69, p69, C69, hk69, hm69, hX69⟩ := C.turnX T1 hG1
  have hs69 := hs.mod hm69 fun k f e hne => hne (hOl k ⟨f, _, _, by rw [e]⟩)
  have hdead : aliveF S1.gens h 1 = false := by rw [hgens]; exact dead_of (by omega) 1
  repeat (first | refine kN_at ?_ | refine kB_at ?_ | refine kfld_of ?_ | refine kext_at rfl ?_ | refine kG_of (by first | exact rfl | omega) ?_ | refine klen_at ?_ | refine eql_at ?_ | refine neq_at ?_ | refine lss_at ?_ | refine leq_at ?_ | refine gtr_at ?_ | refine geq_at ?_ | refine add_at (by omega) (by omega) ?_ | refine sub_at (by omega) (by omega) ?_ | refine not_at ?_ | refine kO_at ?_ | refine kprt_at rfl ?_ | refine kprtN_at rfl ?_ | refine kcap_at ?_ | refine klenStr_at ?_ | refine kN_iat ?_ | refine kN_fat ?_ | refine kIf_T (by first | exact rfl | exact decT (by omega) | exact notT (decF (by omega))) ?_ | refine kIf_F (by first | exact rfl | exact decF (by omega) | exact notF (decT (by omega))) ?_)
  rw [kint_quo]
  refine kG_of (by decide) ?_
  rw [hq2]
  refine kixldN_of (F := entC) (sz := 2) (fun _ => rfl) (by omega) hs69 hhl rfl ?_
  rw [hel]
  refine kcall_of (sDespawn_err (sSpot_deadE (hL.same C69.same) h17 C69.sp hdead)) ?_
  rintro v w76 ⟨x1, rfl, hx1, m76⟩
  repeat (first | refine kN_at ?_ | refine kB_at ?_ | refine kfld_of ?_ | refine kext_at rfl ?_ | refine kG_of (by first | exact rfl | omega) ?_ | refine klen_at ?_ | refine eql_at ?_ | refine neq_at ?_ | refine lss_at ?_ | refine leq_at ?_ | refine gtr_at ?_ | refine geq_at ?_ | refine add_at (by omega) (by omega) ?_ | refine sub_at (by omega) (by omega) ?_ | refine not_at ?_ | refine kO_at ?_ | refine kprt_at rfl ?_ | refine kprtN_at rfl ?_ | refine kcap_at ?_ | refine klenStr_at ?_ | refine kN_iat ?_ | refine kN_fat ?_ | refine kIf_T (by first | exact rfl | exact decT (by omega) | exact notT (decF (by omega))) ?_ | refine kIf_F (by first | exact rfl | exact decF (by omega) | exact notF (decT (by omega))) ?_)
  rw [kint_quo]
  refine kG_of (by decide) ?_
  rw [hq2]
  refine kixldN_of (F := entC) (sz := 2) (fun _ => rfl) (by omega) (hs69.same m76) hhl rfl ?_
  rw [hel]
  refine kcall_of (sGet_err (Sa := Sa) (k := 17) fun w2' m2' => sColumn_dead (hL.same ((C69.same.trans m76).trans m2')) h17 (C69.sp.same (m76.trans m2')) hdead 0) ?_
  rintro v w83 ⟨x2, rfl, hx2, m83⟩
  repeat (first | refine kN_at ?_ | refine kB_at ?_ | refine kfld_of ?_ | refine kext_at rfl ?_ | refine kG_of (by first | exact rfl | omega) ?_ | refine klen_at ?_ | refine eql_at ?_ | refine neq_at ?_ | refine lss_at ?_ | refine leq_at ?_ | refine gtr_at ?_ | refine geq_at ?_ | refine add_at (by omega) (by omega) ?_ | refine sub_at (by omega) (by omega) ?_ | refine not_at ?_ | refine kO_at ?_ | refine kprt_at rfl ?_ | refine kprtN_at rfl ?_ | refine kcap_at ?_ | refine klenStr_at ?_ | refine kN_iat ?_ | refine kN_fat ?_ | refine kIf_T (by first | exact rfl | exact decT (by omega) | exact notT (decF (by omega))) ?_ | refine kIf_F (by first | exact rfl | exact decF (by omega) | exact notF (decT (by omega))) ?_)
  rw [zPartV]
  refine knew_of fun w87 h87 hs87 hb87 => ?_
  refine kst_of (vs := [.int .i64 0, .int .i64 0, .int .i64 0, .int .i64 0, .int .i64 0, .int .i64 0]) hb87 rfl rfl rfl (by simp) (by simp) fun w88 h88 hs88 hb88 => ?_
  have m88a : Same w83 w88 := h87.trans' (h88.mono fun k _ e => .inr (by omega))
  have m88 : Same w69 w88 := (m76.trans m83).trans m88a
  have C88 := C69.loc m88
  have hx1' := hx1.same (m83.trans m88a)
  have hx2' := hx2.same m88a
  have hz69 := C69.same.size
  have hz76 := m76.size
  have hz83 := m83.size
  refine kcall_of (spawn_at (L := []) (hD.same C88.same) C88.sp (C88.lo _ hDlt) C88.gs (by omega) (by rw [hfree]; simp) (SlIs.nil _ _ _) (fun k f e => by cases e) (by simp) (fun q hq => by cases hq) (by simp [NoTwice])) ?_
  rintro v w90 ⟨i, g0, L1, S2, hi1, hg2, rfl, hp1, _, hG2, B2, T2⟩
  have ei : h = i := by
    rw [hfree, hfr] at hi1
    simpa using hi1
  subst ei
  have eg : g0 = 1 := by
    rw [hgens, List.getElem?_set, if_pos rfl, if_pos (by omega)] at hg2
    simp at hg2
    exact hg2.symm
  subst eg
  obtain ⟨o90, p90, C90, hk90, hm90⟩ := C88.turnN T2 hG2
  have hun : ∀ k, w69.heap.size ≤ k → o69 k = none := C69.hi
  have hx1_90 := hx1'.mod hm90 fun k h1 h2 e => e (hun k (by omega))
  have hx2_90 := hx2'.mod hm90 fun k h1 h2 e => e (hun k (by omega))
  have hs90 := (hs69.same m88).mod hm90 fun k f e hne => hne (hk69 k (hO.vblk_lt ⟨f, _, _, by rw [e]⟩) (hOl k ⟨f, _, _, by rw [e]⟩))
  have hOv90 := (hOv.same m88).mod hm90 fun k hk hne => hne (hX69 k hk)
  repeat (first | refine kN_at ?_ | refine kB_at ?_ | refine kfld_of ?_ | refine kext_at rfl ?_ | refine kG_of (by first | exact rfl | omega) ?_ | refine klen_at ?_ | refine eql_at ?_ | refine neq_at ?_ | refine lss_at ?_ | refine leq_at ?_ | refine gtr_at ?_ | refine geq_at ?_ | refine add_at (by omega) (by omega) ?_ | refine sub_at (by omega) (by omega) ?_ | refine not_at ?_ | refine kO_at ?_ | refine kprt_at rfl ?_ | refine kprtN_at rfl ?_ | refine kcap_at ?_ | refine klenStr_at ?_ | refine kN_iat ?_ | refine kN_fat ?_ | refine kIf_T (by first | exact rfl | exact decT (by omega) | exact notT (decF (by omega))) ?_ | refine kIf_F (by first | exact rfl | exact decF (by omega) | exact notF (decT (by omega))) ?_)
  refine knew_of fun w94 h94 hs94 hb94 => ?_
  refine kst_of (vs := [.int .i64 h, .int .i64 2]) hb94 rfl rfl rfl (by simp) (by simp) fun w95 h95 hs95 hb95 => ?_
  have hy95 : blk w95.drew w90.heap.size = some (.cells #[.int .i64 h, .int .i64 2] 37) := hb95
  have m95 : Same w90 w95.drew := (h94.trans' (h95.mono fun k _ e => .inr (by omega))).trans (Mod.refl (fun _ => False) _).drew
  have C95 := C90.loc m95
  have hx1_95 := hx1_90.same m95
  have hx2_95 := hx2_90.same m95
  have hs95 := hs90.same m95
  have hOv95 := hOv90.same m95
  generalize w95.drew = wd at *
  rw [keq_nil_nil' ifErr]
  refine kG_of rfl ?_
  refine kB_at ?_
  refine kIf_T rfl ?_
  rw [kint_and, show (255 : Int) = ((255 : Nat) : Int) from rfl, u32_and hm0 (by omega), em]
  rw [kint_quo]
  refine kG_of (by decide) ?_
  rw [hq2]
  refine kcall_of (parts_spec m h (by omega) wd) ?_
  rintro v w102 ⟨hOp, m102, hfp⟩
  have hP : partsOf S h = partsL m h 8 := hpm h hh
  rw [hP] at hOv95
  have hOv102 := hOv95.same m102
  obtain ⟨va, vn, vc, rfl, hvs, _⟩ := hOv102.is
  obtain ⟨ua, un, uc, rfl, hus, _⟩ := hOp.is
  have hvn : vn = (partsL m h 8).length := by
    have := hvs.1
    rw [flat_len Part.cells 6 (fun _ => rfl)] at this
    omega
  have hun : un = (partsL m h 8).length := by
    have := hus.1
    rw [flat_len Part.cells 6 (fun _ => rfl)] at this
    omega
  subst hvn hun
  have hpl := partsL_len m h 8
  refine kcall_of (same_spec (L := partsL m h 8) (partsL_ok (by omega) (by omega)) (by omega) hvs hus) ?_
  rintro v w104 ⟨rfl, m104⟩
  refine not_at ?_
  refine kB_at ?_
  refine kIf_T rfl ?_
  have m104' := m102.trans m104
  have hL104 := hL.same (C95.same.trans m104')
  refine kld_err hL104 (k := 17) h17 rfl rfl ?_
  refine kG_of rfl ?_
  refine kcall_of (isX_spec hL104 h17 h17 (hx1_95.same m104')) ?_
  rintro v w109 ⟨rfl, rfl⟩
  rw [decT rfl]
  refine not_at ?_
  refine kB_at ?_
  refine kIf_T rfl ?_
  refine kld_err hL104 (k := 17) h17 rfl rfl ?_
  refine kG_of rfl ?_
  refine kcall_of (isX_spec hL104 h17 h17 (hx2_95.same m104')) ?_
  rintro v w114 ⟨rfl, rfl⟩
  rw [decT rfl]
  refine not_at ?_
  refine kB_at ?_
  refine kIf_T rfl ?_
  rw [keq_nil_nil' ifErr]
  refine kG_of rfl ?_
  refine kB_at ?_
  refine kIf_T rfl ?_
  have hy := m104'.get hy95 (fun h => h)
  have hs' := hs95.same m104'
  refine kldN_at (cs := [.int .i64 h, .int .i64 2]) hy rfl (by omega) ?_
  refine kG_of rfl ?_
  rw [kint_quo]
  refine kG_of (by decide) ?_
  rw [hq2]
  refine kixldN_of (F := entC) (sz := 2) (fun _ => rfl) (by omega) hs' hhl rfl ?_
  rw [hel]
  refine kG_of rfl ?_
  show keq Tryz.prog .eql 37 false false (entV (h : Int) 2) (entV (h : Int) 1) w114 _
  rw [keq_entE (by unfold I64; omega) (by unfold I64; omega) (by unfold I64; omega) (by unfold I64; omega), decF (by omega)]
  refine kG_of rfl ?_
  refine kB_at ?_
  refine kIf_T rfl ?_
  repeat (first | refine kN_at ?_ | refine kB_at ?_ | refine kfld_of ?_ | refine kext_at rfl ?_ | refine kld_at hy rfl ?_ | refine kldN_at hy rfl (by omega) ?_ | refine kG_of (by first | exact rfl | omega) ?_ | refine klen_at ?_ | refine eql_at ?_ | refine neq_at ?_ | refine lss_at ?_ | refine leq_at ?_ | refine gtr_at ?_ | refine geq_at ?_ | refine add_at (by omega) (by omega) ?_ | refine sub_at (by omega) (by omega) ?_ | refine not_at ?_ | refine kO_at ?_ | refine kprt_at rfl ?_ | refine kprtN_at rfl ?_ | refine kcap_at ?_ | refine klenStr_at ?_ | refine kN_iat ?_ | refine kN_fat ?_ | refine kIf_T (by first | exact rfl | exact decT (by omega) | exact notT (decF (by omega))) ?_ | refine kIf_F (by first | exact rfl | exact decF (by omega) | exact notF (decT (by omega))) ?_)
  rw [kint_quo]
  refine kG_of (by decide) ?_
  rw [hq2]
  obtain ⟨bb, oo, cs2, tt, ff, rfl, hbb, hle, hcc⟩ := hs'.at hhl (by omega)
  rw [flat_get entC 2 (fun _ => rfl) (entL n) _ hhl, hel] at hcc
  rw [kix_slice]
  refine kG_of (by omega) ?_
  rw [add_mk, Int.toNat_natCast]
  refine kfld_of ?_
  refine kld_of (v := .int .i64 h) hbb (by
    have := congrArg (fun l : List Value => l[0]?) hcc
    simp only [List.getElem?_take, List.getElem?_drop] at this
    simpa [entC, nV] using this) ?_
  refine kG_of rfl ?_
  refine neq_at ?_
  rw [decF (by omega)]
  unfold f5_10
  refine kB_at ?_
  refine kIf_F rfl ?_
  exact full_end hL h2 (C95.same.trans m104')
/-- What holds behind j spawns. -/
def FuI (w0 : World) (b n m : Nat) (j : Nat) (x y : Value) (w : World) : Prop :=
  y = .int .i64 j ∧ ∃ o p S, Cur w0 o w b p S j ∧ S.cs = wideC ∧ S.free.reverse = List.range' j (n - j) ∧ S.gens.length = n ∧ (∀ i, S.gens[i]? = if i < j then some (1, true) else if i < n then some (0, false) else none) ∧ (∀ i, i < j → partsOf S i = partsL m i 8) ∧
    Own w x 2 ((entL j).flatMap entC) ∧ ∀ k, vblk x k → w0.heap.size ≤ k ∧ o k = none
theorem full_spec {pr : Nat → Prop} {Sa : Nat → Addr} {w : World} (hD : DeAt w) (hL : LaidP pr Sa w) (h2p : pr 2) (h6 : pr 6) (h7 : pr 7) (h17 : pr 17) (places : Int) {m0 : Nat} (hm0 : m0 < 4294967296) :
    Meets Tryz.prog 5 #[.int .i64 places, msk m0] w fun v w' => v = .bool true ∧ Same w w' := by
  have hDlt := hD.lt
  rw [msk]
  refine f5_ok ?_
  unfold f5
  refine kcall_of (awake_spec hD hL h7) ?_
  rintro v w2 ⟨rfl, h2⟩
  refine not_at ?_
  refine kB_at ?_
  refine kIf_F rfl ?_
  unfold f5_0
  obtain ⟨n, hn, en⟩ := idx65 places
  rw [kcnv_int, kint_rem]
  refine kG_of (by decide) ?_
  rw [kcnv_int, en]
  refine kcall_of (wide_spec w2) ?_
  rintro v w5 ⟨a5, c5, rfl, hs5, h5⟩
  have m5 := h2.trans h5
  refine kcall_of (sNew_spec (hD.same m5) hs5 wide_good (most := n) (by omega)) ?_
  rintro v w7 ⟨b, rfl, o, p, hP7, hlo7, hhi7, h7w⟩
  have hsz5 := m5.size
  have C7 : Cur w o w7 b p (newS wideC n) 0 := ⟨hP7, newS_gs (by omega), fun k hk => hlo7 k (by omega), hhi7, m5.trans h7w⟩
  rw [ptrV]
  repeat (first | refine kN_at ?_ | refine kB_at ?_ | refine kfld_of ?_ | refine kext_at rfl ?_ | refine kG_of (by first | exact rfl | omega) ?_ | refine klen_at ?_ | refine eql_at ?_ | refine neq_at ?_ | refine lss_at ?_ | refine leq_at ?_ | refine gtr_at ?_ | refine geq_at ?_ | refine add_at (by omega) (by omega) ?_ | refine sub_at (by omega) (by omega) ?_ | refine not_at ?_ | refine kO_at ?_ | refine kprt_at rfl ?_ | refine kprtN_at rfl ?_ | refine kcap_at ?_ | refine klenStr_at ?_ | refine kN_iat ?_ | refine kN_fat ?_ | refine kIf_T (by first | exact rfl | exact decT (by omega) | exact notT (decF (by omega))) ?_ | refine kIf_F (by first | exact rfl | exact decF (by omega) | exact notF (decT (by omega))) ?_)
  rw [keq_ptr_nil ptSto]
  repeat (first | refine kN_at ?_ | refine kB_at ?_ | refine kfld_of ?_ | refine kext_at rfl ?_ | refine kG_of (by first | exact rfl | omega) ?_ | refine klen_at ?_ | refine eql_at ?_ | refine neq_at ?_ | refine lss_at ?_ | refine leq_at ?_ | refine gtr_at ?_ | refine geq_at ?_ | refine add_at (by omega) (by omega) ?_ | refine sub_at (by omega) (by omega) ?_ | refine not_at ?_ | refine kO_at ?_ | refine kprt_at rfl ?_ | refine kprtN_at rfl ?_ | refine kcap_at ?_ | refine klenStr_at ?_ | refine kN_iat ?_ | refine kN_fat ?_ | refine kIf_T (by first | exact rfl | exact decT (by omega) | exact notT (decF (by omega))) ?_ | refine kIf_F (by first | exact rfl | exact decF (by omega) | exact notF (decT (by omega))) ?_)
  rw [keq_nil_nil' ifErr]
  repeat (first | refine kN_at ?_ | refine kB_at ?_ | refine kfld_of ?_ | refine kext_at rfl ?_ | refine kG_of (by first | exact rfl | omega) ?_ | refine klen_at ?_ | refine eql_at ?_ | refine neq_at ?_ | refine lss_at ?_ | refine leq_at ?_ | refine gtr_at ?_ | refine geq_at ?_ | refine add_at (by omega) (by omega) ?_ | refine sub_at (by omega) (by omega) ?_ | refine not_at ?_ | refine kO_at ?_ | refine kprt_at rfl ?_ | refine kprtN_at rfl ?_ | refine kcap_at ?_ | refine klenStr_at ?_ | refine kN_iat ?_ | refine kN_fat ?_ | refine kIf_T (by first | exact rfl | exact decT (by omega) | exact notT (decF (by omega))) ?_ | refine kIf_F (by first | exact rfl | exact decF (by omega) | exact notF (decT (by omega))) ?_)
  unfold f5_2
  refine kbldS_of (cs := []) rfl fun w19 h19 hs19 hb19 => ?_
  have hO19 : Own w19 (.slice (some ⟨w7.heap.size, 0, none⟩) 0 0) 2 ((entL 0).flatMap entC) := Own.blk hb19 (n := 0) (by simp) (by simp [maxLen])
  have hz7 := C7.same.size
  have hm := msk_lt255 m0
  generalize em : m0 &&& 255 = m at *
  refine kL2_of n (FuI w b n m) ⟨lI2_0 ?_, fun x y wr hx => ?_⟩
  · refine ⟨rfl, o, p, _, C7.loc h19, rfl, ?_, List.length_replicate, fun i => ?_, fun i hi => by omega, hO19, fun k hk => ?_⟩
    · show (List.range n).reverse.reverse = List.range' 0 n
      rw [List.reverse_reverse, List.range_eq_range']
    · show (List.replicate n ((0 : Int), false))[i]? = _
      rw [if_neg (by omega), List.getElem?_replicate]
    · rw [vblk_new hk]
      exact ⟨by omega, C7.hi _ (Nat.le_refl _)⟩
  obtain ⟨j, hj, ⟨rfl, o, p, S, C, hcs, hfr, hgl, hgn, hpm, hO, hOl⟩, hJ⟩ := lI2_step hx
  unfold f5_3
  refine lss_at ?_
  refine kB_at ?_
  refine kIf_dec (fun hlt => ?_) (fun hge => ?_)
  · have hlt : j < n := by omega
    unfold f5_4
    rw [kint_and, show (255 : Int) = ((255 : Nat) : Int) from rfl, u32_and hm0 (by omega), em]
    refine kcall_of (parts_spec m j (by omega) wr) ?_
    rintro v w23 ⟨hO23, h23, hfv⟩
    have C23 := C.loc h23
    obtain ⟨a', n', c', rfl, hsl, _⟩ := hO23.is
    have hn' : n' = (partsL m j 8).length := by
      have := hsl.1
      rw [flat_len Part.cells 6 (fun _ => rfl)] at this
      omega
    subst hn'
    have hne : S.free ≠ [] := fun e => by
      rw [e] at hfr
      have := congrArg List.length hfr
      simp at this; omega
    refine kcall_of (spawn_at (L := partsL m j 8) (hD.same C23.same) C23.sp (C23.lo _ hDlt) C23.gs (by omega) hne hsl (fun k f e => C.hi k (hfv k ⟨f, _, _, by rw [e]⟩)) (by have := partsL_len m j 8; omega) (by rw [hcs]; exact partsL_fits) (partsL_nt hm)) ?_
    rintro v w25 ⟨i, g0, L1, S1, hi1, hg1, rfl, hp1, hs1, hG1, B1, T1⟩
    have hfr' : List.range' j (n - j) = j :: List.range' (j + 1) (n - (j + 1)) := by
      rw [show n - j = (n - (j + 1)) + 1 by omega, List.range'_succ]
    have ei : i = j := by
      rw [← List.head?_reverse, hfr, hfr'] at hi1
      exact (Option.some.inj hi1).symm
    subst ei
    have eg : g0 = 0 := by
      rw [hgn i, if_neg (by omega), if_pos (by omega)] at hg1
      cases hg1; rfl
    subst eg
    obtain ⟨o25, p25, C25, hk25, hm25⟩ := C23.turnN T1 hG1
    have hO25 := (hO.same h23).mod hm25 fun k hk hne => hne (hOl k hk).2
    repeat (first | refine kN_at ?_ | refine kB_at ?_ | refine kfld_of ?_ | refine kext_at rfl ?_ | refine kG_of (by first | exact rfl | omega) ?_ | refine klen_at ?_ | refine eql_at ?_ | refine neq_at ?_ | refine lss_at ?_ | refine leq_at ?_ | refine gtr_at ?_ | refine geq_at ?_ | refine add_at (by omega) (by omega) ?_ | refine sub_at (by omega) (by omega) ?_ | refine not_at ?_ | refine kO_at ?_ | refine kprt_at rfl ?_ | refine kprtN_at rfl ?_ | refine kcap_at ?_ | refine klenStr_at ?_ | refine kN_iat ?_ | refine kN_fat ?_ | refine kIf_T (by first | exact rfl | exact decT (by omega) | exact notT (decF (by omega))) ?_ | refine kIf_F (by first | exact rfl | exact decF (by omega) | exact notF (decT (by omega))) ?_)
    refine knew_of fun w29 h29 hs29 hb29 => ?_
    refine kst_of (vs := [.int .i64 i, .int .i64 1]) hb29 rfl rfl rfl (by simp) (by simp) fun w30 h30 hs30 hb30 => ?_
    have hb30 : blk w30 w25.heap.size = some (.cells #[.int .i64 i, .int .i64 1] 37) := hb30
    have m30 : Same w25 w30 := h29.trans' (h30.mono fun k _ e => .inr (by omega))
    rw [keq_nil_nil' ifErr]
    refine kB_at ?_
    refine kIf_F rfl ?_
    unfold f5_5
    refine kldN_at (cs := [.int .i64 i, .int .i64 1]) hb30 rfl (by omega) ?_
    refine kbldS_of (cs := [.int .i64 i, .int .i64 1]) rfl fun w35 h35 hs35 hb35 => ?_
    have m35 := m30.trans h35
    have hOe : Own w35 x 2 ((entL i).flatMap entC) := hO25.same m35
    have el := entL_len i
    refine ksem_append apEnt (by omega) hOe (Src.ofSlIs (hk := slEnt_is.choose_spec) 1 (SlIs.blk hb35 rfl) (ones_ent [((i : Int), (1 : Int))])) (by rw [flat_len entC 2 (fun _ => rfl)]; simp; omega) (by rw [flat_len entC 2 (fun _ => rfl)]; simp; omega) ?_
    intro v' w37 ho hm' hf'
    unfold f5_6
    repeat (first | refine kN_at ?_ | refine kB_at ?_ | refine kfld_of ?_ | refine kext_at rfl ?_ | refine kG_of (by first | exact rfl | omega) ?_ | refine klen_at ?_ | refine eql_at ?_ | refine neq_at ?_ | refine lss_at ?_ | refine leq_at ?_ | refine gtr_at ?_ | refine geq_at ?_ | refine add_at (by omega) (by omega) ?_ | refine sub_at (by omega) (by omega) ?_ | refine not_at ?_ | refine kO_at ?_ | refine kprt_at rfl ?_ | refine kprtN_at rfl ?_ | refine kcap_at ?_ | refine klenStr_at ?_ | refine kN_iat ?_ | refine kN_fat ?_ | refine kIf_T (by first | exact rfl | exact decT (by omega) | exact notT (decF (by omega))) ?_ | refine kIf_F (by first | exact rfl | exact decF (by omega) | exact notF (decT (by omega))) ?_)
    rw [cast_succ]
    have C35 := C25.loc m35
    have hk35 : ∀ k, vblk x k → w.heap.size ≤ k ∧ o25 k = none := fun k hk => ⟨(hOl k hk).1, hk25 k (by have := hO.vblk_lt hk; have := h23.size; omega) (hOl k hk).2⟩
    have C37 := C35.mod hm' (fun k hk => (hk35 k hk).2) (fun k hk => (hk35 k hk).1)
    refine hJ _ _ _ hlt ⟨rfl, o25, p25, S1, C37, B1.cs.trans hcs, ?_, by rw [B1.gens, List.length_set]; exact hgl, fun k => ?_, fun k hk => ?_, ?_, fun k hk => ?_⟩
    · rw [B1.free, ← List.tail_reverse, hfr, hfr']; rfl
    · rw [B1.gens, List.getElem?_set]
      by_cases hki : i = k
      · subst hki
        rw [if_pos rfl, if_pos (by omega), if_pos (by omega)]; rfl
      · rw [if_neg hki, hgn k]
        by_cases h1 : k < i
        · rw [if_pos h1, if_pos (by omega)]
        · have h2 : ¬ k < i + 1 := by omega
          rw [if_neg h1, if_neg h2]
    · by_cases hki : k = i
      · subst hki
        rw [B1.parts]
        exact partsL_of hm hp1 hs1
      · rw [B1.others k 1 hki (by rw [hgn k, if_pos (by omega)])]
        exact hpm k (by omega)
    · rw [entL_succ, List.flatMap_append]
      simpa [entC, nV] using ho
    · rcases hf' k hk with h | h
      · exact hk35 k h
      · have := C35.same.size
        exact ⟨by omega, C35.hi k h⟩
  · have : j = n := by omega
    subst this
    clear hJ hx
    have hfree : S.free = [] := by
      rw [Nat.sub_self] at hfr
      have := congrArg List.length hfr
      simp at this
      exact this
    have hgn' : ∀ i, i < j → S.gens[i]? = some (1, true) := fun i hi => by rw [hgn i, if_pos hi]
    unfold f5_7
    refine kcall_of (sTables_spec C.sp) ?_
    rintro v w40 ⟨rfl, rfl⟩
    rw [kint_andNot, show (255 : Int) = ((255 : Nat) : Int) from rfl, u32_andN (by omega) hm0]
    have hm2 : andN 255 m0 < 256 := by
      unfold andN
      have : 255 &&& (4294967295 - m0) ≤ 255 := Nat.and_le_left
      omega
    generalize andN 255 m0 = m2 at *
    refine kcall_of (parts_spec m2 0 (by omega) w40) ?_
    rintro v w44 ⟨hO44, h44, hfv⟩
    have C44 := C.loc h44
    obtain ⟨a', n', c', rfl, hsl, _⟩ := hO44.is
    have hn' : n' = (partsL m2 0 8).length := by
      have := hsl.1
      rw [flat_len Part.cells 6 (fun _ => rfl)] at this
      omega
    subst hn'
    refine kcall_of (spawn_full (L := partsL m2 0 8) (hL.same C44.same) h6 C44.sp hfree hsl (by have := partsL_len m2 0 8; omega) (by rw [hcs]; exact partsL_fits) (partsL_nt hm2)) ?_
    rintro v w46 ⟨xe, rfl, hxe, h46⟩
    repeat (first | refine kN_at ?_ | refine kB_at ?_ | refine kfld_of ?_ | refine kext_at rfl ?_ | refine kG_of (by first | exact rfl | omega) ?_ | refine klen_at ?_ | refine eql_at ?_ | refine neq_at ?_ | refine lss_at ?_ | refine leq_at ?_ | refine gtr_at ?_ | refine geq_at ?_ | refine add_at (by omega) (by omega) ?_ | refine sub_at (by omega) (by omega) ?_ | refine not_at ?_ | refine kO_at ?_ | refine kprt_at rfl ?_ | refine kprtN_at rfl ?_ | refine kcap_at ?_ | refine klenStr_at ?_ | refine kN_iat ?_ | refine kN_fat ?_ | refine kIf_T (by first | exact rfl | exact decT (by omega) | exact notT (decF (by omega))) ?_ | refine kIf_F (by first | exact rfl | exact decF (by omega) | exact notF (decT (by omega))) ?_)
    refine knew_of fun w50 h50 hs50 hb50 => ?_
    refine kst_of (vs := [.int .i64 0, .int .i64 0]) hb50 rfl rfl rfl (by simp) (by simp) fun w51 h51 hs51 hb51 => ?_
    have m51 : Same w46 w51 := h50.trans' (h51.mono fun k _ e => .inr (by omega))
    have mm : Same w40 w51 := (h44.trans h46).trans m51
    have C51 := C.loc mm
    have hL51 := hL.same C51.same
    refine kld_err hL51 (k := 6) h6 rfl rfl ?_
    refine kcall_of (isX_spec hL51 h6 h6 (hxe.same m51)) ?_
    rintro v w54 ⟨rfl, rfl⟩
    rw [decT rfl]
    refine not_at ?_
    refine kB_at ?_
    refine kIf_T rfl ?_
    refine kcall_of (sCount_spec C51.sp) ?_
    rintro v w58 ⟨rfl, h58⟩
    rw [hgl, hfree, natV]
    refine neq_at ?_
    rw [decF (by simp)]
    refine kB_at ?_
    refine kIf_T rfl ?_
    have C58 := C51.loc h58
    refine kcall_of (sTables_spec C58.sp) ?_
    rintro v w62 ⟨rfl, rfl⟩
    rw [natV]
    refine neq_at ?_
    rw [decF (by simp)]
    unfold f5_8
    refine kB_at ?_
    refine kIf_F rfl ?_
    obtain ⟨xa, xn, xc, rfl, hxs, _⟩ := hO.is
    have el := entL_len j
    have hxn : xn = (entL j).length := by
      have := hxs.1
      rw [flat_len entC 2 (fun _ => rfl)] at this
      omega
    subst hxn
    exact full_mid hD hL h2p h17 hn hm hm0 em C58 (by omega) hcs hfree hgl hgn' hpm ((hO.same mm).same h58) (fun k hk => (hOl k hk).2)
end Go.Proofs.YtlkpadfkmdgjcaaGreatDoor
end
section
set_option linter.unusedSimpArgs false
set_option linter.unusedVariables false
namespace Go.Proofs.YtlkpadfkmdgjcaaGreatDoor
open Go Go.Ev Go.RowKit Go.ChangeShapes Go.WideShapes Go.ChangeAt
set_option linter.unusedVariables false
set_option maxRecDepth 100000
namespace ST
/-- The door's own heap meets the condition. -/
theorem door_met (os : Os) (args : Array Value) : laidMetH Tryz.prog Rows.storeFullRow.laid ((World.doorLaid Tryz.prog 366 os).forCall (fun _ _ => 0) ⟨#[], args, []⟩).memory :=
  laidMetH_of_parts3 (fuel := 8) (laidMet_of_run' 8 (by kernel_rfl) (by kernel_rfl)) (by kernel_rfl) (by kernel_rfl)
theorem lifted (os : Os) (started : os.Started) (H : Type) (enc : TypeId × Value → H) :
    ReturnsInHanded {} Tryz.checked os 5 .any (fun w args => (Rows.storeFullSpec.pre enc Tryz.prog Tryz.f5 [] false w args ∧ laidMetH Tryz.prog Rows.storeFullRow.laid w) ∧ sizedMet enc Tryz.prog Tryz.f5 (OpenSpec.ofChange Rows.storeFullSpec) false w args)
      (Rows.storeFullSpec.post enc Tryz.prog Tryz.f5 false true false false) := by
  refine returnsInHanded_of_change_and (C := Tryz.checked) (X := fun w _ => laidMetH Tryz.prog Rows.storeFullRow.laid w) (fun _ _ _ hh h => h.of_heap hh) own started (by kernel_rfl) Tryz.func5
    (ChangeSpec.witness_shaped (enc := enc) (C := Tryz.checked) (os := os) (X := fun w _ => laidMetH Tryz.prog Rows.storeFullRow.laid w) false (World.doorLaid Tryz.prog 366 os) #[.int .i64 0, .int .u32 0] 8 rfl (World.shaped_of_RefB (by kernel_rfl) (by kernel_rfl)) (by kernel_rfl) (by kernel_rfl) (by kernel_rfl) (door_met os _)) ?_
  intro W base args ds gs before hval0 hW _ _ hL _
  have hval : ∀ (j : Nat) t v, Tryz.f5.params[j]? = some t → args[j]? = some v → Value.okWide Tryz.prog W .any base t v := hval0
  have hW' := hW
  obtain ⟨p, q, hA0, hV, rfl, hfz, hnd⟩ := hW
  have hA : DataW.TrodAll enc Tryz.prog W 0 (fun _ => true) true Tryz.f5.params.toList args.toList ds p := hA0
  rw [Tryz.params5] at hA hval
  obtain ⟨v0, vs0, d0, ds0, p0, q0, hargs, rfl, rfl, h0, r0⟩ := trodAll_cons hA
  obtain ⟨v1, vs1, d1, ds1, p1, q1, rfl, rfl, rfl, h1, r1⟩ := trodAll_cons r0
  obtain ⟨rfl, rfl, rfl⟩ := trodAll_nil r1
  obtain rfl : args = #[v0, v1] := by cases args; simp_all
  obtain ⟨rfl, rfl⟩ := trodVars_none hV
  obtain ⟨x, rfl, rfl, rfl, w0⟩ := open_int Tryz.underlying3 (hval 0 3 v0 rfl rfl) h0
  obtain ⟨y, rfl, rfl, rfl, w1⟩ := open_int Tryz.underlying24 (hval 1 24 v1 rfl rfl) h1
  obtain ⟨⟨S, hS⟩, hD⟩ := laid_of hL
  obtain ⟨hy0, hy1⟩ := u32_wf w1
  have hmet := full_spec hD hS (by decide) (by decide) (by decide) (by decide) x (m0 := y.toNat) (by omega)
  have ey : msk y.toNat = .int .u32 y := by
    show Value.int .u32 (y.toNat : Int) = _
    rw [Int.toNat_of_nonneg hy0]
  rw [ey] at hmet
  refine hmet.2.mono fun e W' he => ?_
  obtain ⟨v, rfl, rfl, hsame⟩ := he
  have bel := hsame.below
  exact ⟨_, rfl, _, _, _, [], _, [], hW', trodAll_mk1 (shut_bool Tryz.underlying4 _),
    trodAll_cons_mk (shut_int Tryz.underlying3 w0)
      (trodAll_cons_mk (shut_int Tryz.underlying24 w1) trodAll_mk0), rfl, bel.frame _, fun h => by cases h⟩
end ST
end Go.Proofs.YtlkpadfkmdgjcaaGreatDoor
end
