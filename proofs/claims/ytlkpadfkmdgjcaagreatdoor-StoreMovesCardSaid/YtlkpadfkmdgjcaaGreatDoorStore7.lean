/-
Lemmas for the statements of this seat: no statement of the seat is proved in this part (7 of 7); the conditions stand in each theorem.
-/
import Derived.Test.YtlkpadfkmdgjcaaGreatDoorStore6
section
set_option linter.unusedSimpArgs false
set_option linter.unusedVariables false
namespace Go.Proofs.YtlkpadfkmdgjcaaGreatDoor
open Go Go.Ev
set_option linter.unusedVariables false
set_option linter.unusedSimpArgs false
set_option maxRecDepth 100000
attribute [local irreducible] kO kB kStr kInt kN kG kIf kfld kld kldN kst knew kmap kbld kbldS kext kcnv klenStr klen kcap kprt kprtN kbool kint kstr keq kun ksl kix kiv kta kmk kmm ksem ksemU kextf kcallV kcallM kcall kL

theorem insert_at {o : Lab} {w : World} (hD : DeAt w) {b : Nat} {p : Ptrs} {S : SM} (h : StoreP o w b p S) (hDo : o 18 = none) {t : Nat} (hG : GS S t) (ht : t ≤ 10000) {i : Nat} {g : Int} (hg : S.gens[i]? = some (g, true)) {q : Part} (hq : FitsP S.cs q) (hno : ∀ x ∈ partsOf S i, x.comp ≠ q.comp) :
    Meets Tryz.prog 18 #[ptrV b, entV i g, .agg q.cells.toArray] w fun v w' => v = .nilIface ∧ ∃ S', GS S' (t + 1) ∧ Went S S' (insP q (partsOf S i)) i ∧ Turned o w b S' w' := by
  obtain ⟨n, r, hsp, hn, hnm, hcol, hpe, hce, hmap, hfit, hmk, hmlt, hpc⟩ := parts_ok h hG hg
  obtain ⟨c, hqc, hcl, hqcl⟩ := id hq
  have hcs := h.good.1
  have hp16 : 2 ^ S.cs.length ≤ 2 ^ 16 := Nat.pow_le_pow_right (by omega) hcs
  have hml := hG.ml
  have hc32 : c < 32 := by omega
  have hcn : c ∉ listF S.masks[n] := fun hm => by
    have h1 : (c : Int) ∈ (partsOf S i).map (·.comp) := hmap ▸ List.mem_map.2 ⟨c, hm, rfl⟩
    obtain ⟨x, hx, e⟩ := List.mem_map.1 h1
    exact hno x hx (by rw [e, hqc])
  have hcm : c ∉ compsM S.masks n := hce ▸ hcn
  have hLc := insP_comps hc32 hqc hmap hcn
  have hperm := insP_perm hno
  have hlen : (partsOf S i).length ≤ 32 := by
    have := congrArg List.length hmap
    simp only [List.length_map] at this
    have := listF_len S.masks[n]
    omega
  have hfit' : ∀ x ∈ insP q (partsOf S i), FitsP S.cs x := fun x hx => by
    have := hperm.mem_iff.2 hx
    rcases List.mem_append.1 this with h | h
    · exact hfit x h
    · simp at h; subst h; exact hq
  have hm'lt : S.masks[n] ||| 2 ^ c < 2 ^ S.cs.length := Nat.or_lt_two_pow hmlt (Nat.pow_lt_pow_right (by omega) hcl)
  have hm' := comps_mask hcs hfit' hm'lt hLc
  rw [ptrV]
  refine f18_ok ?_
  unfold f18
  refine knew_of fun w2 hm2 hs2 hb2 => ?_
  have hb2 : blk w2 w.heap.size = some (.cells #[.int .i64 i, .int .i64 g] 37) := hb2
  refine knew_of fun w4 hm4 hs4 hb4 => ?_
  have hb4 : blk w4 w2.heap.size = some (.cells q.cells.toArray 49) := hb4
  have he4 := hm4.get hb2 (fun h => h)
  have m4 : Same w w4 := hm2.trans hm4
  have hP4 := h.cut m4
  have hcutn : ∀ k, w.heap.size ≤ k → cutL o w.heap.size k = none := fun k hk => cutL_none hk
  have hDo0 : cutL o w.heap.size 18 = none := by
    unfold cutL; split
    · exact hDo
    · rfl
  repeat (first | refine kN_at ?_ | refine kB_at ?_ | refine kfld_of ?_ | refine kext_at rfl ?_ | refine kld_at he4 rfl ?_ | refine kldN_at he4 rfl (by omega) ?_ | refine kG_of (by first | exact rfl | omega) ?_ | refine klen_at ?_ | refine eql_at ?_ | refine neq_at ?_ | refine lss_at ?_ | refine leq_at ?_ | refine gtr_at ?_ | refine geq_at ?_ | refine add_at (by omega) (by omega) ?_ | refine sub_at (by omega) (by omega) ?_ | refine not_at ?_ | refine kO_at ?_ | refine kprt_at rfl ?_ | refine kprtN_at rfl ?_ | refine kcap_at ?_ | refine klenStr_at ?_ | refine kN_iat ?_ | refine kN_fat ?_ | refine kIf_T (by first | exact rfl | exact decT (by omega) | exact notT (decF (by omega))) ?_ | refine kIf_F (by first | exact rfl | exact decF (by omega) | exact notF (decT (by omega))) ?_)
  refine kcall_of (sSpot_spec hP4 hg hsp) ?_
  rintro v w7 ⟨rfl, h7⟩
  repeat (first | refine kN_at ?_ | refine kB_at ?_ | refine kfld_of ?_ | refine kext_at rfl ?_ | refine kG_of (by first | exact rfl | omega) ?_ | refine klen_at ?_ | refine eql_at ?_ | refine neq_at ?_ | refine lss_at ?_ | refine leq_at ?_ | refine gtr_at ?_ | refine geq_at ?_ | refine add_at (by omega) (by omega) ?_ | refine sub_at (by omega) (by omega) ?_ | refine not_at ?_ | refine kO_at ?_ | refine kprt_at rfl ?_ | refine kprtN_at rfl ?_ | refine kcap_at ?_ | refine klenStr_at ?_ | refine kN_iat ?_ | refine kN_fat ?_ | refine kIf_T (by first | exact rfl | exact decT (by omega) | exact notT (decF (by omega))) ?_ | refine kIf_F (by first | exact rfl | exact decF (by omega) | exact notF (decT (by omega))) ?_)
  refine knew_of fun w11 h11 hs11 hb11 => ?_
  refine kst_of (vs := [natV n, natV r]) hb11 rfl rfl rfl (by simp) (by simp) fun w12 h12 hs12 hb12 => ?_
  have hb12 : blk w12 w7.heap.size = some (.cells #[.int .i64 n, .int .i64 r] 153) := hb12
  have hsz7 := h7.size
  have m12 : Same w4 w12 := (h7.trans h11).trans' (h12.mono fun k _ e => .inr (by omega))
  rw [keq_nil_nil' ifErr]
  refine kB_at ?_
  refine kIf_F rfl ?_
  have hp12 := m12.get hb4 (fun h => h)
  refine kldN_at (cs := q.cells) hp12 rfl (by omega) ?_
  refine kcall_of (sFits_spec (hP4.same m12) q hq) ?_
  rintro v w17 ⟨rfl, h17⟩
  refine not_at ?_
  refine kB_at ?_
  refine kIf_F rfl ?_
  have m17 : Same w4 w17.drew := (m12.trans h17).trans (Mod.refl (fun _ => False) _).drew
  have hp17 : blk w17.drew w2.heap.size = _ := h17.get hp12 (fun h => h)
  have hb17 : blk w17.drew w7.heap.size = _ := h17.get hb12 (fun h => h)
  have he17 := m17.get he4 (fun h => h)
  have hsz17 : w12.heap.size ≤ w17.drew.heap.size := h17.size
  generalize w17.drew = wa at *
  have hPa := hP4.same m17
  have hba := hPa.here
  obtain ⟨ta, tc, et, hts⟩ := hPa.ptab hn
  rw [et] at hba
  have hT := hPa.tab n hn
  obtain ⟨q1, rv, bm, q2, q3, q4, q5, q6, q7⟩ := id hT
  repeat (first | refine kN_at ?_ | refine kB_at ?_ | refine kfld_of ?_ | refine kext_at rfl ?_ | refine kld_at hba rfl ?_ | refine kld_at hb17 rfl ?_ | refine kldN_at hba rfl (by omega) ?_ | refine kldN_at hb17 rfl (by omega) ?_ | refine kG_of (by first | exact rfl | omega) ?_ | refine klen_at ?_ | refine eql_at ?_ | refine neq_at ?_ | refine lss_at ?_ | refine leq_at ?_ | refine gtr_at ?_ | refine geq_at ?_ | refine add_at (by omega) (by omega) ?_ | refine sub_at (by omega) (by omega) ?_ | refine not_at ?_ | refine kO_at ?_ | refine kprt_at rfl ?_ | refine kprtN_at rfl ?_ | refine kcap_at ?_ | refine klenStr_at ?_ | refine kN_iat ?_ | refine kN_fat ?_ | refine kIf_T (by first | exact rfl | exact decT (by omega) | exact notT (decF (by omega))) ?_ | refine kIf_F (by first | exact rfl | exact decF (by omega) | exact notF (decT (by omega))) ?_)
  have ele : (List.range S.tabs.length).length = S.tabs.length := List.length_range
  refine kixld_of (F := fun i => ptrV (p.pt i)) (c := tc) (l := List.range S.tabs.length) hts (show n < (List.range S.tabs.length).length by omega) rfl ?_ |> fun h => by rw [ele] at h; exact h
  rw [List.getElem_range, ptrV]
  refine kG_of rfl ?_
  repeat (first | refine kN_at ?_ | refine kB_at ?_ | refine kfld_of ?_ | refine kext_at rfl ?_ | refine kld_at q2 rfl ?_ | refine kldN_at q2 rfl (by omega) ?_ | refine kG_of (by first | exact rfl | omega) ?_ | refine klen_at ?_ | refine eql_at ?_ | refine neq_at ?_ | refine lss_at ?_ | refine leq_at ?_ | refine gtr_at ?_ | refine geq_at ?_ | refine add_at (by omega) (by omega) ?_ | refine sub_at (by omega) (by omega) ?_ | refine not_at ?_ | refine kO_at ?_ | refine kprt_at rfl ?_ | refine kprtN_at rfl ?_ | refine kcap_at ?_ | refine klenStr_at ?_ | refine kN_iat ?_ | refine kN_fat ?_ | refine kIf_T (by first | exact rfl | exact decT (by omega) | exact notT (decF (by omega))) ?_ | refine kIf_F (by first | exact rfl | exact decF (by omega) | exact notF (decT (by omega))) ?_)
  refine kld_of (v := .int .i64 c) hp17 (by simp [Part.cells, hqc]) ?_
  refine kG_of rfl ?_
  have hne : ∀ x ∈ compsM S.masks n, (x : Int) ≠ (c : Int) := fun x hx e => hcm (by
    have : x = c := by omega
    exact this ▸ hx)
  refine klook_of Tryz.underlying147 Tryz.underlying3 zCol q6 (r := none) (by rw [lk_none (fun c => ptrV (p.pc n c)) c _ hne]) ?_
  refine kG_of rfl ?_
  rw [keq_ptr_nil' ptCol]
  refine kG_of rfl ?_
  refine kB_at ?_
  refine kIf_F rfl ?_
  unfold f18_0
  repeat (first | refine kN_at ?_ | refine kB_at ?_ | refine kfld_of ?_ | refine kext_at rfl ?_ | refine kld_at hba rfl ?_ | refine kld_at hb17 rfl ?_ | refine kldN_at hba rfl (by omega) ?_ | refine kldN_at hb17 rfl (by omega) ?_ | refine kG_of (by first | exact rfl | omega) ?_ | refine klen_at ?_ | refine eql_at ?_ | refine neq_at ?_ | refine lss_at ?_ | refine leq_at ?_ | refine gtr_at ?_ | refine geq_at ?_ | refine add_at (by omega) (by omega) ?_ | refine sub_at (by omega) (by omega) ?_ | refine not_at ?_ | refine kO_at ?_ | refine kprt_at rfl ?_ | refine kprtN_at rfl ?_ | refine kcap_at ?_ | refine klenStr_at ?_ | refine kN_iat ?_ | refine kN_fat ?_ | refine kIf_T (by first | exact rfl | exact decT (by omega) | exact notT (decF (by omega))) ?_ | refine kIf_F (by first | exact rfl | exact decF (by omega) | exact notF (decT (by omega))) ?_)
  refine kld_of (v := .int .i64 c) hp17 (by simp [Part.cells, hqc]) ?_
  refine kG_of rfl ?_
  have hPd := hPa.same (Mod.refl (fun _ => False) wa).drew
  have hed : blk wa.drew w.heap.size = _ := he17
  have hpd : blk wa.drew w2.heap.size = _ := hp17
  have m17 : Same w4 wa.drew := m17.trans (Mod.refl (fun _ => False) wa).drew
  have hsz17 : w12.heap.size ≤ wa.drew.heap.size := hsz17
  generalize wa.drew = wd at *
  refine kcall_of (withAt_spec hPd.atlas n hnm c hcl (by omega)) ?_
  rintro v w32 ⟨rfl, o2, hl2, hA2, hm32⟩
  have hP32 := hPd.setAtlas (by omega) hl2 hm32 hA2
  repeat (first | refine kN_at ?_ | refine kB_at ?_ | refine kfld_of ?_ | refine kext_at rfl ?_ | refine kG_of (by first | exact rfl | omega) ?_ | refine klen_at ?_ | refine eql_at ?_ | refine neq_at ?_ | refine lss_at ?_ | refine leq_at ?_ | refine gtr_at ?_ | refine geq_at ?_ | refine add_at (by omega) (by omega) ?_ | refine sub_at (by omega) (by omega) ?_ | refine not_at ?_ | refine kO_at ?_ | refine kprt_at rfl ?_ | refine kprtN_at rfl ?_ | refine kcap_at ?_ | refine klenStr_at ?_ | refine kN_iat ?_ | refine kN_fat ?_ | refine kIf_T (by first | exact rfl | exact decT (by omega) | exact notT (decF (by omega))) ?_ | refine kIf_F (by first | exact rfl | exact decF (by omega) | exact notF (decT (by omega))) ?_)
  rw [keq_nil_nil' ifErr]
  refine kB_at ?_
  refine kIf_F rfl ?_
  unfold f18_1
  have hsz2 := hm2.size
  have hsz4 := m4.size
  have hsz12 := m12.size
  have hsz32 := hm32.size
  have hFu : ∀ {T : Tag → Prop} k, w.heap.size ≤ k → ¬ FP (cutL o w.heap.size) T k := fun k hk ⟨t, e1, _⟩ => by rw [hcutn k hk] at e1; cases e1
  have he32 := hm32.get hed (hFu _ (by omega))
  have hp32 := hm32.get hpd (hFu _ (by omega))
  have hPc := hP32.frame (Mod.refl (fun _ => False) _) (fun _ _ _ h => h) (LabEq.cut w32 o2)
  have hu2 : ∀ k, w.heap.size ≤ k → k < wd.heap.size → cutL o2 w32.heap.size k = none := fun k h1 h2 => by
    unfold cutL; rw [if_pos (by omega), hl2 k h2]; exact hcutn k h1
  have hDlt := hD.lt
  have hDc : cutL o2 w32.heap.size 18 = none := by
    unfold cutL
    rw [if_pos (by omega), hl2 _ (by omega)]
    exact hDo0
  have hD32 : DeAt w32 := ((hD.same m4).same m17).mod hm32 fun ⟨t, e1, _⟩ => by rw [hDo0] at e1; cases e1
  repeat (first | refine kN_at ?_ | refine kB_at ?_ | refine kfld_of ?_ | refine kext_at rfl ?_ | refine kld_at he32 rfl ?_ | refine kldN_at he32 rfl (by omega) ?_ | refine kG_of (by first | exact rfl | omega) ?_ | refine klen_at ?_ | refine eql_at ?_ | refine neq_at ?_ | refine lss_at ?_ | refine leq_at ?_ | refine gtr_at ?_ | refine geq_at ?_ | refine add_at (by omega) (by omega) ?_ | refine sub_at (by omega) (by omega) ?_ | refine not_at ?_ | refine kO_at ?_ | refine kprt_at rfl ?_ | refine kprtN_at rfl ?_ | refine kcap_at ?_ | refine klenStr_at ?_ | refine kN_iat ?_ | refine kN_fat ?_ | refine kIf_T (by first | exact rfl | exact decT (by omega) | exact notT (decF (by omega))) ?_ | refine kIf_F (by first | exact rfl | exact decF (by omega) | exact notF (decT (by omega))) ?_)
  refine kcall_of (move_at hD32 hPc hDc hG h.tle ht hg (bc := w2.heap.size) (by omega) (hu2 _ (by omega) (by omega)) (with_turns hp32 (by omega)) hperm hLc hm' hfit') ?_
  rintro v w43 ⟨rfl, S', hG', hW, hTu⟩
  refine ⟨rfl, S', hG', hW, ?_⟩
  refine Turned.wrap m4 ?_ (Mod.refl _ _)
  refine Turned.seq (o1 := cutL o w.heap.size) (w1 := w4) (LabEq.refl _ _) (Mod.refl _ _) m17 ?_
  exact Turned.seq (o1 := cutL o2 w32.heap.size) (w1 := w32) (hl2.trans (LabEq.cut w32 o2) hm32.size) (hm32.mono fun k _ hk => FP.mono (fun _ _ => trivial) hk) (Mod.refl _ _) hTu
end Go.Proofs.YtlkpadfkmdgjcaaGreatDoor
end
section
set_option linter.unusedSimpArgs false
set_option linter.unusedVariables false
namespace Go.Proofs.YtlkpadfkmdgjcaaGreatDoor
open Go Go.Ev
set_option linter.unusedVariables false
set_option linter.unusedSimpArgs false
set_option maxRecDepth 100000
attribute [local irreducible] kO kB kStr kInt kN kG kIf kfld kld kldN kst knew kmap kbld kbldS kext kcnv klenStr klen kcap kprt kprtN kbool kint kstr keq kun ksl kix kiv kta kmk kmm ksem ksemU kextf kcallV kcallM kcall kL

/-- What holds in the loop of 'Parts'. -/
def PtInv (w0 : World) (p : Ptrs) (S : SM) (n r rI bm : Nat) (hn : n < S.tabs.length) (j : Nat) (x : Value) (w : World) : Prop :=
  ∃ seen : List Nat, seen.length = j ∧ seen.Nodup ∧ (∀ i ∈ seen, i < (compsM S.masks n).length) ∧
    blk w rI = some (.mapIter (some bm) ((compsM S.masks n).map fun (c : Nat) => ((c : Int), ptrV (p.pc n c))).length seen.toArray ((compsM S.masks n).map fun (c : Nat) => ((c : Int), ptrV (p.pc n c))).length) ∧
    Own w x 6 (((seenL (compsM S.masks n) seen).map (partAt S.tabs[n] r)).flatMap Part.cells) ∧ (∀ k, vblk x k → rI < k) ∧ Mod (fun k => k = rI) w0 w
theorem parts_at {o : Lab} {w : World} {b : Nat} {p : Ptrs} {S : SM} (h : StoreP o w b p S) {t : Nat} (hG : GS S t) {i : Nat} {g : Int} (hg : S.gens[i]? = some (g, true)) :
    Meets Tryz.prog 21 #[ptrV b, entV i g] w fun v w' => ∃ sv, v = .tuple #[sv, .nilIface] ∧ Own w' sv 6 ((partsOf S i).flatMap Part.cells) ∧ (∀ k, vblk sv k → w.heap.size ≤ k) ∧ Same w w' := by
  obtain ⟨n, r, hsp, hn, hnm, hcol, hpe, hce, hmap, hfit, hmk, hmlt, hpc⟩ := parts_ok h hG hg
  have hc64 : (compsM S.masks n).length ≤ 32 := by rw [hce]; exact listF_len _
  rw [ptrV]
  refine f21_ok ?_
  unfold f21
  refine knew_of fun w2 hm2 hs2 hb2 => ?_
  have hb2 : blk w2 w.heap.size = some (.cells #[.int .i64 i, .int .i64 g] 37) := hb2
  repeat (first | refine kN_at ?_ | refine kB_at ?_ | refine kfld_of ?_ | refine kext_at rfl ?_ | refine kld_at hb2 rfl ?_ | refine kldN_at hb2 rfl (by omega) ?_ | refine kG_of (by first | exact rfl | omega) ?_ | refine klen_at ?_ | refine eql_at ?_ | refine neq_at ?_ | refine lss_at ?_ | refine leq_at ?_ | refine gtr_at ?_ | refine geq_at ?_ | refine add_at (by omega) (by omega) ?_ | refine sub_at (by omega) (by omega) ?_ | refine not_at ?_ | refine kO_at ?_ | refine kprt_at rfl ?_ | refine kprtN_at rfl ?_ | refine kcap_at ?_ | refine klenStr_at ?_ | refine kN_iat ?_ | refine kN_fat ?_ | refine kIf_T (by first | exact rfl | exact decT (by omega) | exact notT (decF (by omega))) ?_ | refine kIf_F (by first | exact rfl | exact decF (by omega) | exact notF (decT (by omega))) ?_)
  refine kcall_of (sSpot_spec (h.same hm2) hg hsp) ?_
  rintro v w5 ⟨rfl, h5⟩
  repeat (first | refine kN_at ?_ | refine kB_at ?_ | refine kfld_of ?_ | refine kext_at rfl ?_ | refine kG_of (by first | exact rfl | omega) ?_ | refine klen_at ?_ | refine eql_at ?_ | refine neq_at ?_ | refine lss_at ?_ | refine leq_at ?_ | refine gtr_at ?_ | refine geq_at ?_ | refine add_at (by omega) (by omega) ?_ | refine sub_at (by omega) (by omega) ?_ | refine not_at ?_ | refine kO_at ?_ | refine kprt_at rfl ?_ | refine kprtN_at rfl ?_ | refine kcap_at ?_ | refine klenStr_at ?_ | refine kN_iat ?_ | refine kN_fat ?_ | refine kIf_T (by first | exact rfl | exact decT (by omega) | exact notT (decF (by omega))) ?_ | refine kIf_F (by first | exact rfl | exact decF (by omega) | exact notF (decT (by omega))) ?_)
  refine knew_of fun w9 h9 hs9 hb9 => ?_
  refine kst_of (vs := [natV n, natV r]) hb9 rfl rfl rfl (by simp) (by simp) fun w10 h10 hs10 hb10 => ?_
  have hb10 : blk w10.drew w5.heap.size = some (.cells #[.int .i64 n, .int .i64 r] 153) := hb10
  have hsz5 := h5.size
  have m10 : Same w w10.drew := (((hm2.trans h5).trans h9).trans' (h10.mono fun k _ e => .inr (by omega))).trans (Mod.refl (fun _ => False) _).drew
  rw [keq_nil_nil' ifErr]
  refine kB_at ?_
  refine kIf_F rfl ?_
  unfold f21_0
  have hs10 : w10.drew.heap.size = w5.heap.size + 1 := by show w10.heap.size = _; omega
  generalize w10.drew = wa at *
  have hPa := h.same m10
  have hba := hPa.here
  obtain ⟨ta, tc, et, hts⟩ := hPa.ptab hn
  rw [et] at hba
  have hT := hPa.tab n hn
  obtain ⟨q1, rv, bm, q2, q3, q4, q5, q6, q7⟩ := id hT
  repeat (first | refine kN_at ?_ | refine kB_at ?_ | refine kfld_of ?_ | refine kext_at rfl ?_ | refine kld_at hba rfl ?_ | refine kld_at hb10 rfl ?_ | refine kldN_at hba rfl (by omega) ?_ | refine kldN_at hb10 rfl (by omega) ?_ | refine kG_of (by first | exact rfl | omega) ?_ | refine klen_at ?_ | refine eql_at ?_ | refine neq_at ?_ | refine lss_at ?_ | refine leq_at ?_ | refine gtr_at ?_ | refine geq_at ?_ | refine add_at (by omega) (by omega) ?_ | refine sub_at (by omega) (by omega) ?_ | refine not_at ?_ | refine kO_at ?_ | refine kprt_at rfl ?_ | refine kprtN_at rfl ?_ | refine kcap_at ?_ | refine klenStr_at ?_ | refine kN_iat ?_ | refine kN_fat ?_ | refine kIf_T (by first | exact rfl | exact decT (by omega) | exact notT (decF (by omega))) ?_ | refine kIf_F (by first | exact rfl | exact decF (by omega) | exact notF (decT (by omega))) ?_)
  have ele : (List.range S.tabs.length).length = S.tabs.length := List.length_range
  refine kixld_of (F := fun i => ptrV (p.pt i)) (c := tc) (l := List.range S.tabs.length) hts (show n < (List.range S.tabs.length).length by omega) rfl ?_ |> fun h => by rw [ele] at h; exact h
  rw [List.getElem_range, ptrV]
  refine kG_of rfl ?_
  repeat (first | refine kN_at ?_ | refine kB_at ?_ | refine kfld_of ?_ | refine kext_at rfl ?_ | refine kld_at q2 rfl ?_ | refine kldN_at q2 rfl (by omega) ?_ | refine kG_of (by first | exact rfl | omega) ?_ | refine klen_at ?_ | refine eql_at ?_ | refine neq_at ?_ | refine lss_at ?_ | refine leq_at ?_ | refine gtr_at ?_ | refine geq_at ?_ | refine add_at (by omega) (by omega) ?_ | refine sub_at (by omega) (by omega) ?_ | refine not_at ?_ | refine kO_at ?_ | refine kprt_at rfl ?_ | refine kprtN_at rfl ?_ | refine kcap_at ?_ | refine klenStr_at ?_ | refine kN_iat ?_ | refine kN_fat ?_ | refine kIf_T (by first | exact rfl | exact decT (by omega) | exact notT (decF (by omega))) ?_ | refine kIf_F (by first | exact rfl | exact decF (by omega) | exact notF (decT (by omega))) ?_)
  refine krange_of Tryz.underlying147 q6 fun w21 h21 hs21 hb21 => ?_
  have hlr : p.pt n < wa.heap.size := lt_of_blk q2
  have hmsz := m10.size
  have hs21' : w21.heap.size = wa.heap.size + 1 := hs21
  refine kL1_of (compsM S.masks n).length (PtInv w21 p S n r wa.heap.size bm hn) ⟨lI1_0 ?_, fun x wr hx => ?_⟩
  · exact ⟨[], rfl, List.nodup_nil, fun i hi => by simp at hi, hb21, Own.nil _ _, (fun k hk => by obtain ⟨_, _, _, e⟩ := hk; cases e), Mod.refl _ _⟩
  obtain ⟨j, hj, ⟨seen, hsl, hnd, hsb, hit, hOx, hfx, hmr⟩, hJ⟩ := lI1_step hx
  have hlt6 := lt_of_blk q6
  have q6r : MapIs wr bm .i64 _ := (q6.mod h21 (fun h => h)).mod hmr (fun e => by omega)
  have hmr0 : Same w wr := (m10.trans h21).trans' (hmr.mono fun k _ e => .inr (by omega))
  unfold f21_1
  refine knext_of hit q6r (fun hall => ?_) (fun ix hix hnix w2' hm2' hs2' hit2 => ?_)
  · have hperm := seenL_perm hnd hsb (fun i hi => hall i (by simpa using hi))
    repeat (first | refine kN_at ?_ | refine kB_at ?_ | refine kfld_of ?_ | refine kext_at rfl ?_ | refine kG_of (by first | exact rfl | omega) ?_ | refine klen_at ?_ | refine eql_at ?_ | refine neq_at ?_ | refine lss_at ?_ | refine leq_at ?_ | refine gtr_at ?_ | refine geq_at ?_ | refine add_at (by omega) (by omega) ?_ | refine sub_at (by omega) (by omega) ?_ | refine not_at ?_ | refine kO_at ?_ | refine kprt_at rfl ?_ | refine kprtN_at rfl ?_ | refine kcap_at ?_ | refine klenStr_at ?_ | refine kN_iat ?_ | refine kN_fat ?_ | refine kIf_T (by first | exact rfl | exact decT (by omega) | exact notT (decF (by omega))) ?_ | refine kIf_F (by first | exact rfl | exact decF (by omega) | exact notF (decT (by omega))) ?_)
    refine kcall_of (sorted_spec hOx (by simp [hperm.length_eq]; omega)) ?_
    rintro v w77 ⟨L', g1, g2, g3, g4⟩
    have hL' := sort_unique (compsM_sorted S.masks n) (f := partAt S.tabs[n] r) hpc (hperm.map _) g1 g2
    rw [hL'] at g3
    rw [hpe]
    exact ⟨x, rfl, g3, fun k hk => by have := hfx k hk; omega, hmr0.trans' (g4.mono fun k _ e => .inr (by have := hfx k e; omega))⟩
  · have hixc : ix < (compsM S.masks n).length := by simpa using hix
    have hgi : ((compsM S.masks n).map fun (c : Nat) => ((c : Int), ptrV (p.pc n c)))[ix] = (((compsM S.masks n)[ix] : Int), ptrV (p.pc n (compsM S.masks n)[ix])) := by simp
    have hjl : j < (compsM S.masks n).length := by
      have hnd2 : (seen ++ [ix]).Nodup := List.nodup_append.2 ⟨hnd, by simp, fun a ha b hb e => by simp at hb; subst hb; subst e; exact hnix ha⟩
      have := List.Nodup.length_le_of_subset hnd2 (l₂ := List.range (compsM S.masks n).length) (fun a ha => by
        rcases List.mem_append.1 ha with h | h
        · simpa using hsb a h
        · simp at h; subst h; simpa using hixc)
      simp at this; omega
    repeat (first | refine kN_at ?_ | refine kB_at ?_ | refine kfld_of ?_ | refine kext_at rfl ?_ | refine kG_of (by first | exact rfl | omega) ?_ | refine klen_at ?_ | refine eql_at ?_ | refine neq_at ?_ | refine lss_at ?_ | refine leq_at ?_ | refine gtr_at ?_ | refine geq_at ?_ | refine add_at (by omega) (by omega) ?_ | refine sub_at (by omega) (by omega) ?_ | refine not_at ?_ | refine kO_at ?_ | refine kprt_at rfl ?_ | refine kprtN_at rfl ?_ | refine kcap_at ?_ | refine klenStr_at ?_ | refine kN_iat ?_ | refine kN_fat ?_ | refine kIf_T (by first | exact rfl | exact decT (by omega) | exact notT (decF (by omega))) ?_ | refine kIf_F (by first | exact rfl | exact decF (by omega) | exact notF (decT (by omega))) ?_)
    unfold f21_2
    refine kentry_of hix hit2 (q6r.mod hm2' (fun e => by omega)) ?_
    rw [hgi]
    generalize hc : (compsM S.masks n)[ix] = c at *
    have hcm : c ∈ compsM S.masks n := hc ▸ List.getElem_mem hixc
    have hzr := hmr.size
    have hm02 : Same w w2' := hmr0.trans' (hm2'.mono fun k _ e => .inr (by omega))
    have hCol := ((h.same hm02).tab n hn).col hcm
    have hb2r : blk w2' w5.heap.size = some (.cells #[.int .i64 n, .int .i64 r] 153) := hm2'.get (hmr.get (h21.get hb10 (fun h => h)) (by omega)) (by omega)
    repeat (first | refine kN_at ?_ | refine kB_at ?_ | refine kfld_of ?_ | refine kext_at rfl ?_ | refine kld_at hb2r rfl ?_ | refine kldN_at hb2r rfl (by omega) ?_ | refine kG_of (by first | exact rfl | omega) ?_ | refine klen_at ?_ | refine eql_at ?_ | refine neq_at ?_ | refine lss_at ?_ | refine leq_at ?_ | refine gtr_at ?_ | refine geq_at ?_ | refine add_at (by omega) (by omega) ?_ | refine sub_at (by omega) (by omega) ?_ | refine not_at ?_ | refine kO_at ?_ | refine kprt_at rfl ?_ | refine kprtN_at rfl ?_ | refine kcap_at ?_ | refine klenStr_at ?_ | refine kN_iat ?_ | refine kN_fat ?_ | refine kIf_T (by first | exact rfl | exact decT (by omega) | exact notT (decF (by omega))) ?_ | refine kIf_F (by first | exact rfl | exact decF (by omega) | exact notF (decT (by omega))) ?_)
    have hrc := hcol c hcm
    refine kcall_of (cRow_spec hCol hrc) ?_
    rintro v w31 ⟨rfl, hm31⟩
    repeat (first | refine kN_at ?_ | refine kB_at ?_ | refine kfld_of ?_ | refine kext_at rfl ?_ | refine kG_of (by first | exact rfl | omega) ?_ | refine klen_at ?_ | refine eql_at ?_ | refine neq_at ?_ | refine lss_at ?_ | refine leq_at ?_ | refine gtr_at ?_ | refine geq_at ?_ | refine add_at (by omega) (by omega) ?_ | refine sub_at (by omega) (by omega) ?_ | refine not_at ?_ | refine kO_at ?_ | refine kprt_at rfl ?_ | refine kprtN_at rfl ?_ | refine kcap_at ?_ | refine klenStr_at ?_ | refine kN_iat ?_ | refine kN_fat ?_ | refine kIf_T (by first | exact rfl | exact decT (by omega) | exact notT (decF (by omega))) ?_ | refine kIf_F (by first | exact rfl | exact decF (by omega) | exact notF (decT (by omega))) ?_)
    refine knew_of fun w35 h35 hs35 hb35 => ?_
    refine kst_of (vs := ((S.tabs[n].col c)[r]).cells) hb35 rfl rfl rfl (by simp) (by simp [Part.cells]) fun w36 h36 hs36 hb36 => ?_
    have hb36 : blk w36 w31.heap.size = some (.cells ((S.tabs[n].col c)[r]).cells.toArray 49) := hb36
    rw [keq_nil_nil' ifErr]
    refine kB_at ?_
    refine kIf_F rfl ?_
    unfold f21_3
    repeat (first | refine kN_at ?_ | refine kB_at ?_ | refine kfld_of ?_ | refine kext_at rfl ?_ | refine kld_at hb36 rfl ?_ | refine kldN_at hb36 rfl (by omega) ?_ | refine kG_of (by first | exact rfl | omega) ?_ | refine klen_at ?_ | refine eql_at ?_ | refine neq_at ?_ | refine lss_at ?_ | refine leq_at ?_ | refine gtr_at ?_ | refine geq_at ?_ | refine add_at (by omega) (by omega) ?_ | refine sub_at (by omega) (by omega) ?_ | refine not_at ?_ | refine kO_at ?_ | refine kprt_at rfl ?_ | refine kprtN_at rfl ?_ | refine kcap_at ?_ | refine klenStr_at ?_ | refine kN_iat ?_ | refine kN_fat ?_ | refine kIf_T (by first | exact rfl | exact decT (by omega) | exact notT (decF (by omega))) ?_ | refine kIf_F (by first | exact rfl | exact decF (by omega) | exact notF (decT (by omega))) ?_)
    refine kbldS_of (cs := ((S.tabs[n].col c)[r]).cells) rfl fun w41 h41 hs41 hb41 => ?_
    have hz2 := hm2'.size
    have hz31 := hm31.size
    have m41 : Same w2' w41 := (hm31.trans (h35.trans' (h36.mono fun k _ e => .inr (by omega)))).trans h41
    have hO41 : Own w41 x 6 _ := (hOx.mod hm2' (fun k hk e => by have := hfx k hk; omega)).same m41
    have hpl : (seenL (compsM S.masks n) seen).length = j := by simp [seenL, hsl]
    refine ksem_append apParts (by omega) hO41 (Src.ofSlIs (hk := slPart_is.choose_spec) 1 (SlIs.blk hb41 rfl) (ones_parts [(S.tabs[n].col c)[r]])) (by rw [flat_len Part.cells 6 (fun _ => rfl)]; simp [hpl, Part.cells]; omega) (by rw [flat_len Part.cells 6 (fun _ => rfl)]; simp [hpl, Part.cells]; omega) ?_
    intro v' w43 ho43 hm43 hf43
    have hit43 := hm43.get (m41.get hit2 (fun h => h)) (fun e => by have := hfx _ e; omega)
    refine hJ _ _ hjl ⟨seen ++ [ix], by simp [hsl], ?_, ?_, hit43, ?_, ?_, ?_⟩
    · exact List.nodup_append.2 ⟨hnd, by simp, fun a ha b hb e => by simp at hb; subst hb; subst e; exact hnix ha⟩
    · intro a ha
      rcases List.mem_append.1 ha with h | h
      · exact hsb a h
      · simp at h; subst h; exact hixc
    · rw [seenL_snoc _ _ _ hixc, hc, List.map_append, List.flatMap_append]
      have e : ([c].map (partAt S.tabs[n] r)).flatMap Part.cells = ((S.tabs[n].col c)[r]).cells := by
        simp [partAt, List.getElem?_eq_getElem hrc]
      rw [e]
      exact ho43
    · intro k hk
      rcases hf43 k hk with h | h
      · exact hfx k h
      · have := m41.size; omega
    · have y3 : Mod (fun i => i = wa.heap.size ∨ w21.heap.size ≤ i) w41 w43 := hm43.mono fun k _ e => .inr (by have := hfx k e; omega)
      exact hmr.trans' ((hm2'.mono fun k _ e => .inl e).trans ((Mod.of_same m41).trans y3))
end Go.Proofs.YtlkpadfkmdgjcaaGreatDoor
end
section
set_option linter.unusedSimpArgs false
set_option linter.unusedVariables false
namespace Go.Proofs.YtlkpadfkmdgjcaaGreatDoor
open Go Go.Ev
set_option linter.unusedVariables false
set_option linter.unusedSimpArgs false
set_option maxRecDepth 100000
attribute [local irreducible] kO kB kStr kInt kN kG kIf kfld kld kldN kst knew kmap kbld kbldS kext kcnv klenStr klen kcap kprt kprtN kbool kint kstr keq kun ksl kix kiv kta kmk kmm ksem ksemU kextf kcallV kcallM kcall kL

theorem insert_twice {pr : Nat → Prop} {Sa : Nat → Addr} {o : Lab} {w : World} (hL : LaidP pr Sa w) (h9 : pr 9) {b : Nat} {p : Ptrs} {S : SM} (h : StoreP o w b p S) {t : Nat} (hG : GS S t) {i : Nat} {g : Int} (hg : S.gens[i]? = some (g, true)) {q : Part} (hq : FitsP S.cs q) {y : Part} (hy : y ∈ partsOf S i) (hyq : y.comp = q.comp) :
    Meets Tryz.prog 18 #[ptrV b, entV i g, .agg q.cells.toArray] w fun v w' => ErrX Sa 9 w.heap.size v w' ∧ Same w w' := by
  obtain ⟨n, r, hsp, hn, hnm, hcol, hpe, hce, hmap, hfit, hmk, hmlt, hpc⟩ := parts_ok h hG hg
  obtain ⟨c, hqc, hcl, hqcl⟩ := id hq
  have hcm : c ∈ compsM S.masks n := by
    rw [hpe] at hy
    obtain ⟨d, hd, rfl⟩ := List.mem_map.1 hy
    have := hpc d hd
    have : d = c := by omega
    subst this; exact hd
  rw [ptrV]
  refine f18_ok ?_
  unfold f18
  refine knew_of fun w2 hm2 hs2 hb2 => ?_
  have hb2 : blk w2 w.heap.size = some (.cells #[.int .i64 i, .int .i64 g] 37) := hb2
  refine knew_of fun w4 hm4 hs4 hb4 => ?_
  have hb4 : blk w4 w2.heap.size = some (.cells q.cells.toArray 49) := hb4
  have he4 := hm4.get hb2 (fun h => h)
  have m4 : Same w w4 := hm2.trans hm4
  have hP4 := h.cut m4
  have hcutn : ∀ k, w.heap.size ≤ k → cutL o w.heap.size k = none := fun k hk => cutL_none hk
  repeat (first | refine kN_at ?_ | refine kB_at ?_ | refine kfld_of ?_ | refine kext_at rfl ?_ | refine kld_at he4 rfl ?_ | refine kldN_at he4 rfl (by omega) ?_ | refine kG_of (by first | exact rfl | omega) ?_ | refine klen_at ?_ | refine eql_at ?_ | refine neq_at ?_ | refine lss_at ?_ | refine leq_at ?_ | refine gtr_at ?_ | refine geq_at ?_ | refine add_at (by omega) (by omega) ?_ | refine sub_at (by omega) (by omega) ?_ | refine not_at ?_ | refine kO_at ?_ | refine kprt_at rfl ?_ | refine kprtN_at rfl ?_ | refine kcap_at ?_ | refine klenStr_at ?_ | refine kN_iat ?_ | refine kN_fat ?_ | refine kIf_T (by first | exact rfl | exact decT (by omega) | exact notT (decF (by omega))) ?_ | refine kIf_F (by first | exact rfl | exact decF (by omega) | exact notF (decT (by omega))) ?_)
  refine kcall_of (sSpot_spec hP4 hg hsp) ?_
  rintro v w7 ⟨rfl, h7⟩
  repeat (first | refine kN_at ?_ | refine kB_at ?_ | refine kfld_of ?_ | refine kext_at rfl ?_ | refine kG_of (by first | exact rfl | omega) ?_ | refine klen_at ?_ | refine eql_at ?_ | refine neq_at ?_ | refine lss_at ?_ | refine leq_at ?_ | refine gtr_at ?_ | refine geq_at ?_ | refine add_at (by omega) (by omega) ?_ | refine sub_at (by omega) (by omega) ?_ | refine not_at ?_ | refine kO_at ?_ | refine kprt_at rfl ?_ | refine kprtN_at rfl ?_ | refine kcap_at ?_ | refine klenStr_at ?_ | refine kN_iat ?_ | refine kN_fat ?_ | refine kIf_T (by first | exact rfl | exact decT (by omega) | exact notT (decF (by omega))) ?_ | refine kIf_F (by first | exact rfl | exact decF (by omega) | exact notF (decT (by omega))) ?_)
  refine knew_of fun w11 h11 hs11 hb11 => ?_
  refine kst_of (vs := [natV n, natV r]) hb11 rfl rfl rfl (by simp) (by simp) fun w12 h12 hs12 hb12 => ?_
  have hb12 : blk w12 w7.heap.size = some (.cells #[.int .i64 n, .int .i64 r] 153) := hb12
  have hsz7 := h7.size
  have m12 : Same w4 w12 := (h7.trans h11).trans' (h12.mono fun k _ e => .inr (by omega))
  rw [keq_nil_nil' ifErr]
  refine kB_at ?_
  refine kIf_F rfl ?_
  have hp12 := m12.get hb4 (fun h => h)
  refine kldN_at (cs := q.cells) hp12 rfl (by omega) ?_
  refine kcall_of (sFits_spec (hP4.same m12) q hq) ?_
  rintro v w17 ⟨rfl, h17⟩
  refine not_at ?_
  refine kB_at ?_
  refine kIf_F rfl ?_
  have m17 : Same w4 w17.drew := (m12.trans h17).trans (Mod.refl (fun _ => False) _).drew
  have hp17 : blk w17.drew w2.heap.size = _ := h17.get hp12 (fun h => h)
  have hb17 : blk w17.drew w7.heap.size = _ := h17.get hb12 (fun h => h)
  have he17 := m17.get he4 (fun h => h)
  have hsz17 : w12.heap.size ≤ w17.drew.heap.size := h17.size
  generalize w17.drew = wa at *
  have hPa := hP4.same m17
  have hba := hPa.here
  obtain ⟨ta, tc, et, hts⟩ := hPa.ptab hn
  rw [et] at hba
  have hT := hPa.tab n hn
  obtain ⟨q1, rv, bm, q2, q3, q4, q5, q6, q7⟩ := id hT
  repeat (first | refine kN_at ?_ | refine kB_at ?_ | refine kfld_of ?_ | refine kext_at rfl ?_ | refine kld_at hba rfl ?_ | refine kld_at hb17 rfl ?_ | refine kldN_at hba rfl (by omega) ?_ | refine kldN_at hb17 rfl (by omega) ?_ | refine kG_of (by first | exact rfl | omega) ?_ | refine klen_at ?_ | refine eql_at ?_ | refine neq_at ?_ | refine lss_at ?_ | refine leq_at ?_ | refine gtr_at ?_ | refine geq_at ?_ | refine add_at (by omega) (by omega) ?_ | refine sub_at (by omega) (by omega) ?_ | refine not_at ?_ | refine kO_at ?_ | refine kprt_at rfl ?_ | refine kprtN_at rfl ?_ | refine kcap_at ?_ | refine klenStr_at ?_ | refine kN_iat ?_ | refine kN_fat ?_ | refine kIf_T (by first | exact rfl | exact decT (by omega) | exact notT (decF (by omega))) ?_ | refine kIf_F (by first | exact rfl | exact decF (by omega) | exact notF (decT (by omega))) ?_)
  have ele : (List.range S.tabs.length).length = S.tabs.length := List.length_range
  refine kixld_of (F := fun i => ptrV (p.pt i)) (c := tc) (l := List.range S.tabs.length) hts (show n < (List.range S.tabs.length).length by omega) rfl ?_ |> fun h => by rw [ele] at h; exact h
  rw [List.getElem_range, ptrV]
  refine kG_of rfl ?_
  repeat (first | refine kN_at ?_ | refine kB_at ?_ | refine kfld_of ?_ | refine kext_at rfl ?_ | refine kld_at q2 rfl ?_ | refine kldN_at q2 rfl (by omega) ?_ | refine kG_of (by first | exact rfl | omega) ?_ | refine klen_at ?_ | refine eql_at ?_ | refine neq_at ?_ | refine lss_at ?_ | refine leq_at ?_ | refine gtr_at ?_ | refine geq_at ?_ | refine add_at (by omega) (by omega) ?_ | refine sub_at (by omega) (by omega) ?_ | refine not_at ?_ | refine kO_at ?_ | refine kprt_at rfl ?_ | refine kprtN_at rfl ?_ | refine kcap_at ?_ | refine klenStr_at ?_ | refine kN_iat ?_ | refine kN_fat ?_ | refine kIf_T (by first | exact rfl | exact decT (by omega) | exact notT (decF (by omega))) ?_ | refine kIf_F (by first | exact rfl | exact decF (by omega) | exact notF (decT (by omega))) ?_)
  refine kld_of (v := .int .i64 c) hp17 (by simp [Part.cells, hqc]) ?_
  refine kG_of rfl ?_
  refine klook_of Tryz.underlying147 Tryz.underlying3 zCol q6 (r := some (_, _)) (by rw [lk_comps, if_pos hcm]) ?_
  refine kG_of rfl ?_
  simp -dsimp only [ptrV]
  rw [keq_ptr_nil' ptCol]
  refine kG_of rfl ?_
  refine kB_at ?_
  refine kIf_T rfl ?_
  have mz : Same w wa := m4.trans m17
  have hLz := hL.same mz
  refine kld_err hLz (k := 9) h9 rfl rfl ?_
  refine kcall_of (sWrong_spec (ErrX.sent Sa 9 wa.heap.size wa) (Nat.le_refl _)) ?_
  rintro v w26 ⟨hx, h26⟩
  exact ⟨hx.mono mz.size, mz.trans h26⟩
end Go.Proofs.YtlkpadfkmdgjcaaGreatDoor
end
section
set_option linter.unusedSimpArgs false
set_option linter.unusedVariables false
namespace Go.Proofs.YtlkpadfkmdgjcaaGreatDoor
open Go Go.Ev
set_option linter.unusedVariables false
set_option linter.unusedSimpArgs false
set_option maxRecDepth 100000
attribute [local irreducible] kO kB kStr kInt kN kG kIf kfld kld kldN kst knew kmap kbld kbldS kext kcnv klenStr klen kcap kprt kprtN kbool kint kstr keq kun ksl kix kiv kta kmk kmm ksem ksemU kextf kcallV kcallM kcall kL

theorem sRemove_err {Sa : Nat → Addr} {k : Nat} {w : World} {b : Nat} {idx gen c : Int}
    (h : ∀ w2, Same w w2 → Meets Tryz.prog 98 #[ptrV b, entV idx gen, .int .i64 c] w2 fun v w' => ∃ x, v = .tuple #[.pointer none, .int .i64 0, x] ∧ ErrX Sa k w2.heap.size x w' ∧ Same w2 w') :
    Meets Tryz.prog 24 #[ptrV b, entV idx gen, .int .i64 c] w fun v w' => ∃ x, v = .tuple #[zPartV, x] ∧ ErrX Sa k w.heap.size x w' ∧ Same w w' := by
  refine f24_ok ?_
  unfold f24
  refine knew_of fun w2 hm2 hs2 hb2 => ?_
  have hb2 : blk w2 w.heap.size = some (.cells #[.int .i64 idx, .int .i64 gen] 37) := hb2
  refine knew_of fun w4 hm4 hs4 hb4 => ?_
  have hb4 : blk w4 w2.heap.size = some (.cells #[.int .i64 c] 3) := hb4
  refine knew_of fun w6 hm6 hs6 hb6 => ?_
  have he6 := hm6.get (hm4.get hb2 (fun h => h)) (fun h => h)
  have hc6 := hm6.get hb4 (fun h => h)
  have m6 : Same w w6 := (hm2.trans hm4).trans hm6
  repeat (first | refine kN_at ?_ | refine kB_at ?_ | refine kfld_of ?_ | refine kext_at rfl ?_ | refine kld_at he6 rfl ?_ | refine kld_at hc6 rfl ?_ | refine kldN_at he6 rfl (by omega) ?_ | refine kldN_at hc6 rfl (by omega) ?_ | refine kG_of (by first | exact rfl | omega) ?_ | refine klen_at ?_ | refine eql_at ?_ | refine neq_at ?_ | refine lss_at ?_ | refine leq_at ?_ | refine gtr_at ?_ | refine geq_at ?_ | refine add_at (by omega) (by omega) ?_ | refine sub_at (by omega) (by omega) ?_ | refine not_at ?_ | refine kO_at ?_ | refine kprt_at rfl ?_ | refine kprtN_at rfl ?_ | refine kcap_at ?_ | refine klenStr_at ?_ | refine kN_iat ?_ | refine kN_fat ?_ | refine kIf_T (by first | exact rfl | exact decT (by omega) | exact notT (decF (by omega))) ?_ | refine kIf_F (by first | exact rfl | exact decF (by omega) | exact notF (decT (by omega))) ?_)
  refine kcall_of (sGet_err (Sa := Sa) (k := k) fun w2' m2' => h w2' (m6.trans m2')) ?_
  rintro v w10 ⟨x, rfl, hx, h10⟩
  have hz10 := h10.get hb6 (fun h => h)
  have hsz10 := h10.size
  obtain ⟨t, y, rfl⟩ := hx.if
  rw [zPartV]
  repeat (first | refine kN_at ?_ | refine kB_at ?_ | refine kfld_of ?_ | refine kext_at rfl ?_ | refine kG_of (by first | exact rfl | omega) ?_ | refine klen_at ?_ | refine eql_at ?_ | refine neq_at ?_ | refine lss_at ?_ | refine leq_at ?_ | refine gtr_at ?_ | refine geq_at ?_ | refine add_at (by omega) (by omega) ?_ | refine sub_at (by omega) (by omega) ?_ | refine not_at ?_ | refine kO_at ?_ | refine kprt_at rfl ?_ | refine kprtN_at rfl ?_ | refine kcap_at ?_ | refine klenStr_at ?_ | refine kN_iat ?_ | refine kN_fat ?_ | refine kIf_T (by first | exact rfl | exact decT (by omega) | exact notT (decF (by omega))) ?_ | refine kIf_F (by first | exact rfl | exact decF (by omega) | exact notF (decT (by omega))) ?_)
  refine knew_of fun w14 h14 hs14 hb14 => ?_
  refine kst_of (vs := [.int .i64 0, .int .i64 0, .int .i64 0, .int .i64 0, .int .i64 0, .int .i64 0]) hb14 rfl rfl rfl (by simp) (by simp) fun w15 h15 hs15 hb15 => ?_
  have m15 : Same w10 w15 := h14.trans' (h15.mono fun k _ e => .inr (by omega))
  have hz15 := m15.get hz10 (fun h => h)
  rw [keq_if_nil' ifErr]
  refine kB_at ?_
  refine kIf_T rfl ?_
  refine kbld_of (cs := [.int .i64 0, .int .i64 0, .int .i64 0, .int .i64 0, .int .i64 0, .int .i64 0]) rfl ?_
  refine kst_of (vs := [.int .i64 0, .int .i64 0, .int .i64 0, .int .i64 0, .int .i64 0, .int .i64 0]) hz15 rfl rfl rfl (by simp) (by simp) fun w19 h19 hs19 hb19 => ?_
  have hb19 : blk w19 w4.heap.size = some (.cells #[.int .i64 0, .int .i64 0, .int .i64 0, .int .i64 0, .int .i64 0, .int .i64 0] 49) := hb19
  repeat (first | refine kN_at ?_ | refine kB_at ?_ | refine kfld_of ?_ | refine kext_at rfl ?_ | refine kld_at hb19 rfl ?_ | refine kldN_at hb19 rfl (by omega) ?_ | refine kG_of (by first | exact rfl | omega) ?_ | refine klen_at ?_ | refine eql_at ?_ | refine neq_at ?_ | refine lss_at ?_ | refine leq_at ?_ | refine gtr_at ?_ | refine geq_at ?_ | refine add_at (by omega) (by omega) ?_ | refine sub_at (by omega) (by omega) ?_ | refine not_at ?_ | refine kO_at ?_ | refine kprt_at rfl ?_ | refine kprtN_at rfl ?_ | refine kcap_at ?_ | refine klenStr_at ?_ | refine kN_iat ?_ | refine kN_fat ?_ | refine kIf_T (by first | exact rfl | exact decT (by omega) | exact notT (decF (by omega))) ?_ | refine kIf_F (by first | exact rfl | exact decF (by omega) | exact notF (decT (by omega))) ?_)
  refine ⟨_, rfl, ((hx.same m15).mod h19 fun k h1 h2 e => by omega).mono (by omega), ((m6.trans h10).trans m15).trans' (h19.mono fun k _ e => .inr (by omega))⟩
end Go.Proofs.YtlkpadfkmdgjcaaGreatDoor
end
section
set_option linter.unusedSimpArgs false
set_option linter.unusedVariables false
namespace Go.Proofs.YtlkpadfkmdgjcaaGreatDoor
open Go Go.Ev
set_option linter.unusedVariables false
set_option linter.unusedSimpArgs false
set_option maxRecDepth 100000
attribute [local irreducible] kO kB kStr kInt kN kG kIf kfld kld kldN kst knew kmap kbld kbldS kext kcnv klenStr klen kcap kprt kprtN kbool kint kstr keq kun ksl kix kiv kta kmk kmm ksem ksemU kextf kcallV kcallM kcall kL

theorem keq_partN {p q : Part} (hp : p.ok) (hq : q.ok) {w : World} {K : Value → World → Prop} {cx cy : Bool} :
    keq Tryz.prog .neq 49 cx cy (.agg p.cells.toArray) (.agg q.cells.toArray) w K = K (.bool (!decide (p = q))) w := by
  obtain ⟨r, hr, hiff⟩ := run_equalIn_deep (P := Tryz.prog) 9990 10 49 keyPart w 3 3 (.agg p.cells.toArray) (.agg q.cells.toArray) _ _ (formPart p) (formPart q) (kl_part hp 0) (kl_part hq 0)
  have hr2 : r = decide (p = q) := by
    rw [Bool.eq_iff_iff, hiff, decide_eq_true_eq]
    cases p; cases q
    simp
  rw [hr2] at hr
  simp only [keq, eqW, semV, Sem.run_bind, run_eqGuard_agg w .neq 49 _ _ p.cells.toArray q.cells.toArray guardPart, Result.andThen_ok, run_neq_struct]
  rw [show (10000 : Nat) = 9990 + 10 from rfl, hr]
  rfl

theorem same_spec {w : World} {L : List Part} (hok : ∀ q ∈ L, q.ok) (hlen : L.length ≤ 1000000) {a1 a2 : Option Addr} {c1 c2 : Nat} (h1 : SlIs w a1 L.length 6 (L.flatMap Part.cells)) (h2 : SlIs w a2 L.length 6 (L.flatMap Part.cells)) :
    Meets Tryz.prog 25 #[.slice a1 L.length c1, .slice a2 L.length c2] w fun v w' => v = .bool true ∧ Same w w' := by
  refine f25_ok ?_
  unfold f25
  refine klen_at ?_
  refine klen_at ?_
  refine neq_at ?_
  rw [decF (by simp)]
  refine kB_at ?_
  refine kIf_F rfl ?_
  unfold f25_0
  refine kL1_of L.length (fun j x wr => x = .int .i64 j ∧ Same w wr) ⟨lI1_0 ⟨rfl, Mod.refl _ _⟩, fun x wr hx => ?_⟩
  obtain ⟨j, hj, ⟨rfl, hm⟩, hJ⟩ := lI1_step hx
  unfold f25_1
  refine klen_at ?_
  refine lss_at ?_
  refine kB_at ?_
  refine kIf_dec (fun hlt => ?_) (fun hge => ?_)
  · have hlt : j < L.length := by omega
    have hq := hok _ (List.getElem_mem hlt)
    have md : Same wr wr.drew := (Mod.refl (fun _ => False) _).drew
    unfold f25_2
    refine kixldN_of (F := Part.cells) (sz := 6) (fun _ => rfl) (by omega) (h1.same hm) hlt rfl ?_
    refine kG_of rfl ?_
    refine kixldN_of (F := Part.cells) (sz := 6) (fun _ => rfl) (by omega) (h2.same hm) hlt rfl ?_
    refine kG_of rfl ?_
    rw [keq_partN hq hq]
    refine kG_of rfl ?_
    refine kB_at ?_
    refine kIf_F (by simp) ?_
    unfold f25_3
    repeat (first | refine kN_at ?_ | refine kB_at ?_ | refine kfld_of ?_ | refine kext_at rfl ?_ | refine kG_of (by first | exact rfl | omega) ?_ | refine klen_at ?_ | refine eql_at ?_ | refine neq_at ?_ | refine lss_at ?_ | refine leq_at ?_ | refine gtr_at ?_ | refine geq_at ?_ | refine add_at (by omega) (by omega) ?_ | refine sub_at (by omega) (by omega) ?_ | refine not_at ?_ | refine kO_at ?_ | refine kprt_at rfl ?_ | refine kprtN_at rfl ?_ | refine kcap_at ?_ | refine klenStr_at ?_ | refine kN_iat ?_ | refine kN_fat ?_ | refine kIf_T (by first | exact rfl | exact decT (by omega) | exact notT (decF (by omega))) ?_ | refine kIf_F (by first | exact rfl | exact decF (by omega) | exact notF (decT (by omega))) ?_)
    rw [cast_succ]
    exact hJ _ _ hlt ⟨rfl, hm.trans md⟩
  · exact ⟨rfl, hm⟩
end Go.Proofs.YtlkpadfkmdgjcaaGreatDoor
end
section
set_option linter.unusedSimpArgs false
set_option linter.unusedVariables false
namespace Go.Proofs.YtlkpadfkmdgjcaaGreatDoor
open Go Go.Ev
set_option linter.unusedVariables false
set_option linter.unusedSimpArgs false
set_option maxRecDepth 100000
attribute [local irreducible] kO kB kStr kInt kN kG kIf kfld kld kldN kst knew kmap kbld kbldS kext kcnv klenStr klen kcap kprt kprtN kbool kint kstr keq kun ksl kix kiv kta kmk kmm ksem ksemU kextf kcallV kcallM kcall kL

/-! ### StoreMoves, walked -/
theorem Cur.turnK {w0 : World} {o : Lab} {w w' : World} {b : Nat} {p : Ptrs} {S S' : SM} {t t' : Nat} (h : Cur w0 o w b p S t) (T : Turned o w b S' w') (hG : GS S' t') : ∃ o' p', Cur w0 o' w' b p' S' t' ∧ (∀ k, k < w.heap.size → o k = none → o' k = none) ∧ Mod (fun k => o k ≠ none) w w' := by
  obtain ⟨o', p', C, hl, hm⟩ := h.turn T hG
  exact ⟨o', p', C, fun k hk e => by rw [hl k hk]; exact e, hm⟩
theorem moves_tail {pr : Nat → Prop} {Sa : Nat → Addr} {w0 w1 : World} {o : Lab} {b : Nat} {p : Ptrs} {S : SM} {t : Nat} (C : Cur w0 o w1 b p S t) (hL : LaidP pr Sa w0) (h7 : pr 7) (hg : S.gens[0]? = some (1, true)) (hcs : S.cs = wideC)
    {bx : Nat} (hx : blk w1 bx = some (.cells #[.int .i64 0, .int .i64 1] 37)) {L : List Part} (hok : ∀ q ∈ L, q.ok) (hlen : L.length ≤ 1000000) {a1 a2 : Option Addr} {c1 c2 : Nat} (h1 : SlIs w1 a1 L.length 6 (L.flatMap Part.cells)) (h2 : SlIs w1 a2 L.length 6 (L.flatMap Part.cells)) :
    f4_9 (.pointer (some ⟨b, 0, none⟩)) (.slice a2 L.length c2) (.pointer (some ⟨bx, 0, none⟩)) (.slice a1 L.length c1) (fun v w' => v = .bool true ∧ Same w0 w') w1 := by
  obtain ⟨n, r, hsp, hn, hnm, _, _, hce, _, _, _, hmlt, _⟩ := parts_ok C.sp C.gs hg
  have hno : ∀ x ∈ compsM S.masks n, (x : Int) ≠ 99 := fun x hx => by
    rw [hce] at hx
    have := listF_lt hmlt hx
    rw [hcs, wideC_len] at this
    omega
  unfold f4_9
  refine kldN_at (cs := [.int .i64 0, .int .i64 1]) hx rfl (by omega) ?_
  refine kcall_of (sRemove_err (Sa := Sa) (k := 7) fun w2' m2' => sColumn_none (hL.same (C.same.trans m2')) h7 (C.sp.same m2') (i := 0) (g := 1) hg hsp hn hno) ?_
  rintro v w3 ⟨xe, rfl, hxe, h3⟩
  repeat (first | refine kN_at ?_ | refine kB_at ?_ | refine kfld_of ?_ | refine kext_at rfl ?_ | refine kG_of (by first | exact rfl | omega) ?_ | refine klen_at ?_ | refine eql_at ?_ | refine neq_at ?_ | refine lss_at ?_ | refine leq_at ?_ | refine gtr_at ?_ | refine geq_at ?_ | refine add_at (by omega) (by omega) ?_ | refine sub_at (by omega) (by omega) ?_ | refine not_at ?_ | refine kO_at ?_ | refine kprt_at rfl ?_ | refine kprtN_at rfl ?_ | refine kcap_at ?_ | refine klenStr_at ?_ | refine kN_iat ?_ | refine kN_fat ?_ | refine kIf_T (by first | exact rfl | exact decT (by omega) | exact notT (decF (by omega))) ?_ | refine kIf_F (by first | exact rfl | exact decF (by omega) | exact notF (decT (by omega))) ?_)
  rw [zPartV]
  refine knew_of fun w7 h7' hs7 hb7 => ?_
  refine kst_of (vs := [.int .i64 0, .int .i64 0, .int .i64 0, .int .i64 0, .int .i64 0, .int .i64 0]) hb7 rfl rfl rfl (by simp) (by simp) fun w8 h8 hs8 hb8 => ?_
  have m8 : Same w3 w8 := h7'.trans' (h8.mono fun k _ e => .inr (by omega))
  refine kcall_of (same_spec hok hlen (h1.same (h3.trans m8)) (h2.same (h3.trans m8))) ?_
  rintro v w10 ⟨rfl, h10⟩
  refine kB_at ?_
  refine kIf_T rfl ?_
  have m10 : Same w0 w10 := ((C.same.trans h3).trans m8).trans h10
  refine kld_err (hL.same m10) (k := 7) h7 rfl rfl ?_
  refine kcall_of (isX_spec (hL.same m10) h7 h7 (hxe.same (m8.trans h10))) ?_
  rintro v w12 ⟨rfl, rfl⟩
  exact ⟨rfl, m10⟩
def pQ (c : Nat) (v : Int) : Part := ⟨(c : Int), v, 0, 0, 0, 7⟩
theorem pQ_fits {c : Nat} (h : c < 8) (v : Int) : FitsP wideC (pQ c v) := by
  refine ⟨c, rfl, by rw [wideC_len]; exact h, ?_⟩
  rw [wd_wide h]
  intro x hx
  have : x ∈ [(0 : Int), 0, 0] := hx
  simpa using this
theorem moves_spec {pr : Nat → Prop} {Sa : Nat → Addr} {w : World} (hD : DeAt w) (hL : LaidP pr Sa w) (h7 : pr 7) (h9 : pr 9) {m0 : Nat} (hm0 : m0 < 4294967296) (comp : Int) {value : Int} (hv : I64 value) :
    Meets Tryz.prog 4 #[msk m0, .int .i64 comp, .int .i64 value] w fun v w' => v = .bool true ∧ Same w w' := by
  have hDlt := hD.lt
  rw [msk]
  refine f4_ok ?_
  unfold f4
  refine kcall_of (awake_spec hD hL h7) ?_
  rintro v w2 ⟨rfl, h2⟩
  refine not_at ?_
  refine kB_at ?_
  refine kIf_F rfl ?_
  unfold f4_0
  refine kcall_of (wide_spec w2) ?_
  rintro v w5 ⟨a5, c5, rfl, hs5, h5⟩
  have m5 := h2.trans h5
  refine kcall_of (sNew_spec (hD.same m5) hs5 wide_good (most := 3) (by omega)) ?_
  rintro v w7 ⟨b, rfl, o, p, hP7, hlo7, hhi7, h7w⟩
  have hsz5 := m5.size
  have C7 : Cur w o w7 b p (newS wideC 3) 0 := ⟨hP7, newS_gs (by omega), fun k hk => hlo7 k (by omega), hhi7, m5.trans h7w⟩
  rw [ptrV]
  repeat (first | refine kN_at ?_ | refine kB_at ?_ | refine kfld_of ?_ | refine kext_at rfl ?_ | refine kG_of (by first | exact rfl | omega) ?_ | refine klen_at ?_ | refine eql_at ?_ | refine neq_at ?_ | refine lss_at ?_ | refine leq_at ?_ | refine gtr_at ?_ | refine geq_at ?_ | refine add_at (by omega) (by omega) ?_ | refine sub_at (by omega) (by omega) ?_ | refine not_at ?_ | refine kO_at ?_ | refine kprt_at rfl ?_ | refine kprtN_at rfl ?_ | refine kcap_at ?_ | refine klenStr_at ?_ | refine kN_iat ?_ | refine kN_fat ?_ | refine kIf_T (by first | exact rfl | exact decT (by omega) | exact notT (decF (by omega))) ?_ | refine kIf_F (by first | exact rfl | exact decF (by omega) | exact notF (decT (by omega))) ?_)
  rw [keq_ptr_nil ptSto]
  repeat (first | refine kN_at ?_ | refine kB_at ?_ | refine kfld_of ?_ | refine kext_at rfl ?_ | refine kG_of (by first | exact rfl | omega) ?_ | refine klen_at ?_ | refine eql_at ?_ | refine neq_at ?_ | refine lss_at ?_ | refine leq_at ?_ | refine gtr_at ?_ | refine geq_at ?_ | refine add_at (by omega) (by omega) ?_ | refine sub_at (by omega) (by omega) ?_ | refine not_at ?_ | refine kO_at ?_ | refine kprt_at rfl ?_ | refine kprtN_at rfl ?_ | refine kcap_at ?_ | refine klenStr_at ?_ | refine kN_iat ?_ | refine kN_fat ?_ | refine kIf_T (by first | exact rfl | exact decT (by omega) | exact notT (decF (by omega))) ?_ | refine kIf_F (by first | exact rfl | exact decF (by omega) | exact notF (decT (by omega))) ?_)
  rw [keq_nil_nil' ifErr]
  repeat (first | refine kN_at ?_ | refine kB_at ?_ | refine kfld_of ?_ | refine kext_at rfl ?_ | refine kG_of (by first | exact rfl | omega) ?_ | refine klen_at ?_ | refine eql_at ?_ | refine neq_at ?_ | refine lss_at ?_ | refine leq_at ?_ | refine gtr_at ?_ | refine geq_at ?_ | refine add_at (by omega) (by omega) ?_ | refine sub_at (by omega) (by omega) ?_ | refine not_at ?_ | refine kO_at ?_ | refine kprt_at rfl ?_ | refine kprtN_at rfl ?_ | refine kcap_at ?_ | refine klenStr_at ?_ | refine kN_iat ?_ | refine kN_fat ?_ | refine kIf_T (by first | exact rfl | exact decT (by omega) | exact notT (decF (by omega))) ?_ | refine kIf_F (by first | exact rfl | exact decF (by omega) | exact notF (decT (by omega))) ?_)
  unfold f4_2
  rw [kint_and, show (255 : Int) = ((255 : Nat) : Int) from rfl, u32_and hm0 (by omega)]
  have hm := msk_lt255 m0
  generalize m0 &&& 255 = m at *
  obtain ⟨c, hc8, ec⟩ := idx8 comp
  rw [kcnv_int, kint_rem]
  refine kG_of (by decide) ?_
  rw [kcnv_int, ec]
  refine kcall_of (parts_spec m 50 (by omega) w7) ?_
  rintro v w20 ⟨hO, h20, hfv⟩
  have C20 := C7.loc h20
  obtain ⟨a', n', c', rfl, hsl, _⟩ := hO.is
  have hO' := hO
  have hn' : n' = (partsL m 50 8).length := by
    have := hsl.1
    rw [flat_len Part.cells 6 (fun _ => rfl)] at this
    omega
  subst hn'
  have hpl := partsL_len m 50 8
  refine kcall_of (spawn_at (L := partsL m 50 8) (hD.same C20.same) C20.sp (C20.lo _ hDlt) C20.gs (by omega) (by show (List.range 3).reverse ≠ []; decide) hsl (fun k f e => C7.hi k (hfv k ⟨f, _, _, by rw [e]⟩)) (by omega) partsL_fits (partsL_nt hm)) ?_
  rintro v w22 ⟨i, g0, L1, S1, hi1, hg1, rfl, hp1, hs1, hG1, B1, T1⟩
  have ei : i = 0 := Option.some.inj (hi1.symm.trans (show (List.range 3).reverse.getLast? = some 0 from rfl))
  subst ei
  have eg : g0 = 0 := by
    have h : (List.replicate 3 ((0 : Int), false))[0]? = some (g0, false) := hg1
    simp at h
    exact h.symm
  subst eg
  have eL := partsL_of hm hp1 hs1
  subst eL
  have hz20 := h20.size
  obtain ⟨o22, p22, C22, hk22, hm22⟩ := C20.turnK T1 hG1
  have hla : ∀ k f, a' = some ⟨k, f, none⟩ → o22 k = none := fun k f e => by
    exact hk22 k (hO'.vblk_lt ⟨f, _, _, by rw [e]⟩) (C7.hi k (hfv k ⟨f, _, _, by rw [e]⟩))
  have hsl22 := hsl.mod hm22 fun k f e h => h (C7.hi k (hfv k ⟨f, _, _, by rw [e]⟩))
  have hP1 : partsOf S1 0 = partsL m 50 8 := B1.parts
  have hg : S1.gens[0]? = some (1, true) := by rw [B1.gens]; rfl
  have hcs : S1.cs = wideC := B1.cs
  repeat (first | refine kN_at ?_ | refine kB_at ?_ | refine kfld_of ?_ | refine kext_at rfl ?_ | refine kG_of (by first | exact rfl | omega) ?_ | refine klen_at ?_ | refine eql_at ?_ | refine neq_at ?_ | refine lss_at ?_ | refine leq_at ?_ | refine gtr_at ?_ | refine geq_at ?_ | refine add_at (by omega) (by omega) ?_ | refine sub_at (by omega) (by omega) ?_ | refine not_at ?_ | refine kO_at ?_ | refine kprt_at rfl ?_ | refine kprtN_at rfl ?_ | refine kcap_at ?_ | refine klenStr_at ?_ | refine kN_iat ?_ | refine kN_fat ?_ | refine kIf_T (by first | exact rfl | exact decT (by omega) | exact notT (decF (by omega))) ?_ | refine kIf_F (by first | exact rfl | exact decF (by omega) | exact notF (decT (by omega))) ?_)
  refine knew_of fun w26 h26 hs26 hb26 => ?_
  refine kst_of (vs := [.int .i64 0, .int .i64 1]) hb26 rfl rfl rfl (by simp) (by simp) fun w27 h27 hs27 hb27 => ?_
  have hx27 : blk w27 w22.heap.size = some (.cells #[.int .i64 0, .int .i64 1] 37) := hb27
  refine kbld_of (cs := [.int .i64 value, .int .i64 0, .int .i64 0, .int .i64 0]) rfl ?_
  refine kbld_of (cs := (pQ c value).cells) rfl ?_
  refine knew_of fun w31 h31 hs31 hb31 => ?_
  refine kst_of (vs := (pQ c value).cells) hb31 rfl rfl rfl (by simp) (by simp [Part.cells]) fun w32 h32 hs32 hb32 => ?_
  have hp32 : blk w32 w27.heap.size = some (.cells (pQ c value).cells.toArray 49) := hb32
  have m27 : Same w22 w27 := h26.trans' (h27.mono fun k _ e => .inr (by omega))
  have m32 : Same w27 w32 := h31.trans' (h32.mono fun k _ e => .inr (by omega))
  have C32 := C22.loc (m27.trans m32)
  have hx32 := m32.get hx27 (fun h => h)
  have hz27 := m27.size
  have hox : o22 w22.heap.size = none := C22.hi _ (Nat.le_refl _)
  have hop : o22 w27.heap.size = none := C22.hi _ (by omega)
  have hsl32 := hsl22.same (m27.trans m32)
  refine kldN_at (cs := [.int .i64 0, .int .i64 1]) hx32 rfl (by omega) ?_
  refine kldN_at (cs := (pQ c value).cells) hp32 rfl (by omega) ?_
  have hqok : (pQ c value).ok := by unfold Part.ok pQ I64; unfold I64 at hv; simp only; omega
  have hokL : ∀ q ∈ partsL m 50 8, q.ok := partsL_ok (by omega) (by omega)
  have hcomps := partsL_comps (m := m) (v := 50) hm
  have hbc := bitF_nat (c := c) (by omega)
  have hbl := has_bit (m := m) (c := c) (by omega)
  have hmw : m ||| bitF (c : Int) < 256 := by rw [hbc]; exact Nat.or_lt_two_pow (n := 8) hm (Nat.pow_lt_pow_right (by omega) hc8)
  have hhas : ∀ w, Meets Tryz.prog 19 #[.int .u32 m, .int .i64 c] w fun v w' => v = .bool (m.testBit c) ∧ w' = w := fun w => by
    refine (has_spec m (c : Int) (by omega) (by omega) (by omega) w).mono ?_
    rintro v w' ⟨rfl, rfl⟩
    refine ⟨?_, rfl⟩
    congr 1
    rw [Bool.eq_iff_iff, decide_eq_true_eq]
    exact hbl
  by_cases hb : m.testBit c = true
  · obtain ⟨y, hy, hyc⟩ := (partsL_has (m := m) (v := 50) hc8).2 hb
    refine kcall_of (insert_twice (hL.same C32.same) h9 C32.sp C32.gs (i := 0) (g := 1) hg (hcs ▸ pQ_fits hc8 value) (y := y) (by rw [hP1]; exact hy) hyc) ?_
    rintro v w36 ⟨hxe, h36⟩
    have md : Same w36 w36.drew := (Mod.refl (fun _ => False) _).drew
    refine kcall_of (hhas _) ?_
    rintro v w38 ⟨rfl, rfl⟩
    rw [hb]
    have m36 := h36.trans md
    have C36 := C32.loc m36
    have hxe36 := hxe.same md
    have hx36 := m36.get hx32 (fun h => h)
    have hsl36 := hsl32.same m36
    have hz36 := m36.size
    generalize w36.drew = wa at *
    have hL36 := hL.same C36.same
    refine kld_err hL36 (k := 9) h9 rfl rfl ?_
    refine kG_of rfl ?_
    refine kG_of (kld_err hL36 (k := 9) h9 rfl rfl ⟨rfl, rfl⟩) ?_
    refine kcall_of (isX_spec hL36 h9 h9 hxe36) ?_
    rintro v w41 ⟨rfl, rfl⟩
    rw [decT rfl, kbool_neq]
    refine kB_at ?_
    refine kIf_T rfl ?_
    refine kcall_of (hhas _) ?_
    rintro v w45 ⟨rfl, rfl⟩
    rw [hb]
    refine not_at ?_
    refine kB_at ?_
    refine kIf_F rfl ?_
    unfold f4_3
    refine kB_at ?_
    refine kIf_F rfl ?_
    unfold f4_4
    refine kldN_at (cs := [.int .i64 0, .int .i64 1]) hx36 rfl (by omega) ?_
    refine kcall_of (parts_at C36.sp C36.gs (i := 0) (g := 1) hg) ?_
    rintro v w52 ⟨sv, rfl, hOv, hfv2, h52⟩
    rw [hP1] at hOv
    obtain ⟨va, vn, vc, rfl, hvs, _⟩ := hOv.is
    have hvn : vn = (partsL m 50 8).length := by
      have := hvs.1
      rw [flat_len Part.cells 6 (fun _ => rfl)] at this
      omega
    subst hvn
    repeat (first | refine kN_at ?_ | refine kB_at ?_ | refine kfld_of ?_ | refine kext_at rfl ?_ | refine kG_of (by first | exact rfl | omega) ?_ | refine klen_at ?_ | refine eql_at ?_ | refine neq_at ?_ | refine lss_at ?_ | refine leq_at ?_ | refine gtr_at ?_ | refine geq_at ?_ | refine add_at (by omega) (by omega) ?_ | refine sub_at (by omega) (by omega) ?_ | refine not_at ?_ | refine kO_at ?_ | refine kprt_at rfl ?_ | refine kprtN_at rfl ?_ | refine kcap_at ?_ | refine klenStr_at ?_ | refine kN_iat ?_ | refine kN_fat ?_ | refine kIf_T (by first | exact rfl | exact decT (by omega) | exact notT (decF (by omega))) ?_ | refine kIf_F (by first | exact rfl | exact decF (by omega) | exact notF (decT (by omega))) ?_)
    refine kcall_of (with_spec m (c : Int) (by omega) (by omega) (by omega) w52) ?_
    rintro v w58 ⟨rfl, rfl⟩
    refine kcall_of (count_spec _ hmw w58) ?_
    rintro v w60 ⟨rfl, h60⟩
    have m60 := h52.trans h60
    have C60 := C36.loc m60
    have hx60 := m60.get hx36 (fun h => h)
    have hsl60 := hsl36.same m60
    have hz60 := m60.size
    have emb : m ||| bitF (c : Int) = m := by
      rw [hbc]
      apply Nat.eq_of_testBit_eq
      intro j
      rw [Nat.testBit_or, Nat.testBit_two_pow]
      by_cases hcj : c = j
      · subst hcj; simp [hb]
      · simp [hcj]
    have hlen1 := len_comps hcomps
    rw [natV, emb]
    refine neq_at ?_
    rw [decF (by omega)]
    refine kB_at ?_
    refine kIf_F rfl ?_
    unfold f4_5
    refine kldN_at (cs := [.int .i64 0, .int .i64 1]) hx60 rfl (by omega) ?_
    refine kcall_of (remove_at (hD.same C60.same) C60.sp (C60.lo _ hDlt) C60.gs (by omega) (i := 0) (g := 1) hg (c := c) (q := y) (by rw [hP1]; exact hy) hyc) ?_
    rintro v w64 ⟨rfl, S2, hG2, W2, T2⟩
    obtain ⟨o64, p64, C64, hk64, hm64⟩ := C60.turnK T2 hG2
    have hx64 := hm64.get hx60 (fun e => e hox)
    have hox64 := hk64 _ (lt_of_blk hx60) hox
    have hsl64 := hsl60.mod hm64 fun k f e h => h (hla k f e)
    have hla64 : ∀ k f, a' = some ⟨k, f, none⟩ → o64 k = none := fun k f e => hk64 k (by have := hO'.vblk_lt (b := k) ⟨f, _, _, by rw [e]⟩; have := C20.same.size; have := hm22.size; omega) (hla k f e)
    have hg2 : S2.gens[0]? = some (1, true) := by rw [W2.gens]; exact hg
    have hP2 : partsOf S2 0 = (partsL m 50 8).filter fun x => decide (x.comp ≠ y.comp) := by
      have := W2.parts
      rw [hP1, ← hyc] at this
      exact this
    have hcs2 : S2.cs = wideC := W2.cs.trans hcs
    repeat (first | refine kN_at ?_ | refine kB_at ?_ | refine kfld_of ?_ | refine kext_at rfl ?_ | refine kG_of (by first | exact rfl | omega) ?_ | refine klen_at ?_ | refine eql_at ?_ | refine neq_at ?_ | refine lss_at ?_ | refine leq_at ?_ | refine gtr_at ?_ | refine geq_at ?_ | refine add_at (by omega) (by omega) ?_ | refine sub_at (by omega) (by omega) ?_ | refine not_at ?_ | refine kO_at ?_ | refine kprt_at rfl ?_ | refine kprtN_at rfl ?_ | refine kcap_at ?_ | refine klenStr_at ?_ | refine kN_iat ?_ | refine kN_fat ?_ | refine kIf_T (by first | exact rfl | exact decT (by omega) | exact notT (decF (by omega))) ?_ | refine kIf_F (by first | exact rfl | exact decF (by omega) | exact notF (decT (by omega))) ?_)
    refine knew_of fun w68 h68 hs68 hb68 => ?_
    refine kst_of (vs := y.cells) hb68 rfl rfl rfl (by simp) (by simp [Part.cells]) fun w69 h69 hs69 hb69 => ?_
    have hq69 : blk w69 w64.heap.size = some (.cells y.cells.toArray 49) := hb69
    have m69 : Same w64 w69 := h68.trans' (h69.mono fun k _ e => .inr (by omega))
    have C69 := C64.loc m69
    have hx69 := m69.get hx64 (fun h => h)
    have hsl69 := hsl64.same m69
    have hoq : o64 w64.heap.size = none := C64.hi _ (Nat.le_refl _)
    rw [keq_nil_nil' ifErr]
    refine kB_at ?_
    refine kIf_T rfl ?_
    refine kcall_of (hhas _) ?_
    rintro v w74 ⟨rfl, rfl⟩
    rw [hb]
    refine not_at ?_
    refine kB_at ?_
    refine kIf_F rfl ?_
    unfold f4_6
    refine kB_at ?_
    refine kIf_F rfl ?_
    unfold f4_7
    refine kldN_at (cs := [.int .i64 0, .int .i64 1]) hx69 rfl (by omega) ?_
    refine kcall_of (parts_at C69.sp C69.gs (i := 0) (g := 1) hg2) ?_
    rintro v w83 ⟨sv2, rfl, hOv2, hfv3, h83⟩
    repeat (first | refine kN_at ?_ | refine kB_at ?_ | refine kfld_of ?_ | refine kext_at rfl ?_ | refine kG_of (by first | exact rfl | omega) ?_ | refine klen_at ?_ | refine eql_at ?_ | refine neq_at ?_ | refine lss_at ?_ | refine leq_at ?_ | refine gtr_at ?_ | refine geq_at ?_ | refine add_at (by omega) (by omega) ?_ | refine sub_at (by omega) (by omega) ?_ | refine not_at ?_ | refine kO_at ?_ | refine kprt_at rfl ?_ | refine kprtN_at rfl ?_ | refine kcap_at ?_ | refine klenStr_at ?_ | refine kN_iat ?_ | refine kN_fat ?_ | refine kIf_T (by first | exact rfl | exact decT (by omega) | exact notT (decF (by omega))) ?_ | refine kIf_F (by first | exact rfl | exact decF (by omega) | exact notF (decT (by omega))) ?_)
    refine kcall_of (hhas _) ?_
    rintro v w87 ⟨rfl, rfl⟩
    rw [hb]
    have C83 := C69.loc h83
    have hx83 := h83.get hx69 (fun h => h)
    have hq83 := h83.get hq69 (fun h => h)
    have hsl83 := hsl69.same h83
    refine kB_at ?_
    refine kIf_T rfl ?_
    refine kldN_at (cs := [.int .i64 0, .int .i64 1]) hx83 rfl (by omega) ?_
    refine kldN_at (cs := y.cells) hq83 rfl (by omega) ?_
    refine kcall_of (insert_at (hD.same C83.same) C83.sp (C83.lo _ hDlt) C83.gs (by omega) (i := 0) (g := 1) hg2 (q := y) (hcs2 ▸ partsL_fits y hy) (by rw [hP2]; intro x hx; have := (List.mem_filter.1 hx).2; simpa using this)) ?_
    rintro v w91 ⟨rfl, S3, hG3, W3, T3⟩
    obtain ⟨o91, p91, C91, hk91, hm91⟩ := C83.turnK T3 hG3
    have hx91 := hm91.get hx83 (fun e => e hox64)
    have hsl91 := hsl83.mod hm91 fun k f e h => h (hla64 k f e)
    have hg3 : S3.gens[0]? = some (1, true) := by rw [W3.gens]; exact hg2
    have hP3 : partsOf S3 0 = partsL m 50 8 := by
      have := W3.parts
      rw [hP2, insP_back (partsL_sort hm) (partsL_nt hm) hy] at this
      exact this
    rw [keq_nil_nil' ifErr]
    refine kB_at ?_
    refine kIf_F rfl ?_
    unfold f4_8
    refine kldN_at (cs := [.int .i64 0, .int .i64 1]) hx91 rfl (by omega) ?_
    refine kcall_of (parts_at C91.sp C91.gs (i := 0) (g := 1) hg3) ?_
    rintro v w96 ⟨sv3, rfl, hOv3, hfv4, h96⟩
    rw [hP3] at hOv3
    obtain ⟨va3, vn3, vc3, rfl, hvs3, _⟩ := hOv3.is
    have hvn3 : vn3 = (partsL m 50 8).length := by
      have := hvs3.1
      rw [flat_len Part.cells 6 (fun _ => rfl)] at this
      omega
    subst hvn3
    repeat (first | refine kN_at ?_ | refine kB_at ?_ | refine kfld_of ?_ | refine kext_at rfl ?_ | refine kG_of (by first | exact rfl | omega) ?_ | refine klen_at ?_ | refine eql_at ?_ | refine neq_at ?_ | refine lss_at ?_ | refine leq_at ?_ | refine gtr_at ?_ | refine geq_at ?_ | refine add_at (by omega) (by omega) ?_ | refine sub_at (by omega) (by omega) ?_ | refine not_at ?_ | refine kO_at ?_ | refine kprt_at rfl ?_ | refine kprtN_at rfl ?_ | refine kcap_at ?_ | refine klenStr_at ?_ | refine kN_iat ?_ | refine kN_fat ?_ | refine kIf_T (by first | exact rfl | exact decT (by omega) | exact notT (decF (by omega))) ?_ | refine kIf_F (by first | exact rfl | exact decF (by omega) | exact notF (decT (by omega))) ?_)
    exact moves_tail (C91.loc h96) hL h7 hg3 (W3.cs.trans hcs2) (h96.get hx91 (fun h => h)) hokL (by omega) hvs3 (hsl91.same h96)
  · have hno : ∀ x ∈ partsOf S1 0, x.comp ≠ (pQ c value).comp := fun x hx e => hb ((partsL_has (m := m) (v := 50) hc8).1 ⟨x, by rw [← hP1]; exact hx, e⟩)
    have hbf : m.testBit c = false := by simpa using hb
    refine kcall_of (insert_at (hD.same C32.same) C32.sp (C32.lo _ hDlt) C32.gs (by omega) (i := 0) (g := 1) hg (q := pQ c value) (hcs ▸ pQ_fits hc8 value) hno) ?_
    rintro v w36 ⟨rfl, S2, hG2, W2, T2⟩
    obtain ⟨o36, p36, C36', hk36, hm36⟩ := C32.turnK T2 hG2
    have md : Same w36 w36.drew := (Mod.refl (fun _ => False) _).drew
    have C36 := C36'.loc md
    have hx36 := md.get (hm36.get hx32 (fun e => e hox)) (fun h => h)
    have hp36 := md.get (hm36.get hp32 (fun e => e hop)) (fun h => h)
    have hsl36 := (hsl32.mod hm36 fun k f e h => h (hla k f e)).same md
    have hox36 := hk36 _ (lt_of_blk hx32) hox
    have hop36 := hk36 _ (lt_of_blk hp32) hop
    have hla36 : ∀ k f, a' = some ⟨k, f, none⟩ → o36 k = none := fun k f e => hk36 k (by have := hO'.vblk_lt (b := k) ⟨f, _, _, by rw [e]⟩; have := C20.same.size; have := hm22.size; have := m32.size; omega) (hla k f e)
    refine kcall_of (hhas _) ?_
    rintro v w38 ⟨rfl, rfl⟩
    rw [hbf]
    generalize w36.drew = wa at *
    have hL36 := hL.same C36.same
    refine kld_err hL36 (k := 9) h9 rfl rfl ?_
    refine kG_of rfl ?_
    refine kG_of (kld_err hL36 (k := 9) h9 rfl rfl ⟨rfl, rfl⟩) ?_
    refine kcall_of (isNil_spec Sa 9 _) ?_
    rintro v w41 ⟨rfl, rfl⟩
    rw [kbool_neq]
    refine kB_at ?_
    refine kIf_T rfl ?_
    refine kcall_of (hhas _) ?_
    rintro v w45 ⟨rfl, rfl⟩
    rw [hbf]
    refine not_at ?_
    refine kB_at ?_
    refine kIf_T rfl ?_
    rw [keq_nil_nil' ifErr]
    refine kG_of rfl ?_
    unfold f4_3
    refine kB_at ?_
    refine kIf_F rfl ?_
    have hg2 : S2.gens[0]? = some (1, true) := by rw [W2.gens]; exact hg
    have hcs2 : S2.cs = wideC := W2.cs.trans hcs
    have hP2 : partsOf S2 0 = insP (pQ c value) (partsL m 50 8) := by
      have := W2.parts
      rw [hP1] at this
      exact this
    rw [hP1] at hno
    have hcn : c ∉ listF m := fun h => hb (listF_mem.1 h).2
    have hcm2 := insP_comps (q := pQ c value) (show c < 32 by omega) rfl hcomps hcn
    have hlen2 := len_comps hcm2
    unfold f4_4
    refine kldN_at (cs := [.int .i64 0, .int .i64 1]) hx36 rfl (by omega) ?_
    refine kcall_of (parts_at C36.sp C36.gs (i := 0) (g := 1) hg2) ?_
    rintro v w52 ⟨sv, rfl, hOv, hfv2, h52⟩
    rw [hP2] at hOv
    obtain ⟨va, vn, vc, rfl, hvs, _⟩ := hOv.is
    have hvn : vn = (insP (pQ c value) (partsL m 50 8)).length := by
      have := hvs.1
      rw [flat_len Part.cells 6 (fun _ => rfl)] at this
      omega
    subst hvn
    repeat (first | refine kN_at ?_ | refine kB_at ?_ | refine kfld_of ?_ | refine kext_at rfl ?_ | refine kG_of (by first | exact rfl | omega) ?_ | refine klen_at ?_ | refine eql_at ?_ | refine neq_at ?_ | refine lss_at ?_ | refine leq_at ?_ | refine gtr_at ?_ | refine geq_at ?_ | refine add_at (by omega) (by omega) ?_ | refine sub_at (by omega) (by omega) ?_ | refine not_at ?_ | refine kO_at ?_ | refine kprt_at rfl ?_ | refine kprtN_at rfl ?_ | refine kcap_at ?_ | refine klenStr_at ?_ | refine kN_iat ?_ | refine kN_fat ?_ | refine kIf_T (by first | exact rfl | exact decT (by omega) | exact notT (decF (by omega))) ?_ | refine kIf_F (by first | exact rfl | exact decF (by omega) | exact notF (decT (by omega))) ?_)
    refine kcall_of (with_spec m (c : Int) (by omega) (by omega) (by omega) w52) ?_
    rintro v w58 ⟨rfl, rfl⟩
    refine kcall_of (count_spec _ hmw w58) ?_
    rintro v w60 ⟨rfl, h60⟩
    have m60 := h52.trans h60
    have C60 := C36.loc m60
    have hx60 := m60.get hx36 (fun h => h)
    have hp60 := m60.get hp36 (fun h => h)
    have hsl60 := hsl36.same m60
    rw [natV, hbc]
    refine neq_at ?_
    rw [decF (by omega)]
    refine kB_at ?_
    refine kIf_F rfl ?_
    unfold f4_5
    refine kldN_at (cs := [.int .i64 0, .int .i64 1]) hx60 rfl (by omega) ?_
    refine kcall_of (remove_at (hD.same C60.same) C60.sp (C60.lo _ hDlt) C60.gs (by omega) (i := 0) (g := 1) hg2 (c := c) (q := pQ c value) (by rw [hP2]; unfold insP; simp) rfl) ?_
    rintro v w64 ⟨rfl, S3, hG3, W3, T3⟩
    obtain ⟨o64, p64, C64, hk64, hm64⟩ := C60.turnK T3 hG3
    have hx64 := hm64.get hx60 (fun e => e hox36)
    have hp64 := hm64.get hp60 (fun e => e hop36)
    have hsl64 := hsl60.mod hm64 fun k f e h => h (hla36 k f e)
    have hg3 : S3.gens[0]? = some (1, true) := by rw [W3.gens]; exact hg2
    have hP3 : partsOf S3 0 = partsL m 50 8 := by
      have := W3.parts
      rw [hP2] at this
      exact this.trans (insP_filter (partsL_sort hm) (partsL_nt hm) hno)
    repeat (first | refine kN_at ?_ | refine kB_at ?_ | refine kfld_of ?_ | refine kext_at rfl ?_ | refine kG_of (by first | exact rfl | omega) ?_ | refine klen_at ?_ | refine eql_at ?_ | refine neq_at ?_ | refine lss_at ?_ | refine leq_at ?_ | refine gtr_at ?_ | refine geq_at ?_ | refine add_at (by omega) (by omega) ?_ | refine sub_at (by omega) (by omega) ?_ | refine not_at ?_ | refine kO_at ?_ | refine kprt_at rfl ?_ | refine kprtN_at rfl ?_ | refine kcap_at ?_ | refine klenStr_at ?_ | refine kN_iat ?_ | refine kN_fat ?_ | refine kIf_T (by first | exact rfl | exact decT (by omega) | exact notT (decF (by omega))) ?_ | refine kIf_F (by first | exact rfl | exact decF (by omega) | exact notF (decT (by omega))) ?_)
    refine knew_of fun w68 h68 hs68 hb68 => ?_
    refine kst_of (vs := (pQ c value).cells) hb68 rfl rfl rfl (by simp) (by simp [Part.cells]) fun w69 h69 hs69 hb69 => ?_
    have hq69 : blk w69 w64.heap.size = some (.cells (pQ c value).cells.toArray 49) := hb69
    have m69 : Same w64 w69 := h68.trans' (h69.mono fun k _ e => .inr (by omega))
    have C69 := C64.loc m69
    have hx69 := m69.get hx64 (fun h => h)
    have hp69 := m69.get hp64 (fun h => h)
    have hsl69 := hsl64.same m69
    rw [keq_nil_nil' ifErr]
    refine kB_at ?_
    refine kIf_T rfl ?_
    refine kcall_of (hhas _) ?_
    rintro v w74 ⟨rfl, rfl⟩
    rw [hbf]
    refine not_at ?_
    refine kB_at ?_
    refine kIf_T rfl ?_
    refine kldN_at (cs := (pQ c value).cells) hq69 rfl (by omega) ?_
    refine kldN_at (cs := (pQ c value).cells) hp69 rfl (by omega) ?_
    rw [keq_partN hqok hqok, decT rfl]
    unfold f4_6
    refine kB_at ?_
    refine kIf_F rfl ?_
    unfold f4_7
    refine kldN_at (cs := [.int .i64 0, .int .i64 1]) hx69 rfl (by omega) ?_
    refine kcall_of (parts_at C69.sp C69.gs (i := 0) (g := 1) hg3) ?_
    rintro v w83 ⟨sv2, rfl, hOv2, hfv3, h83⟩
    rw [hP3] at hOv2
    obtain ⟨va2, vn2, vc2, rfl, hvs2, _⟩ := hOv2.is
    have hvn2 : vn2 = (partsL m 50 8).length := by
      have := hvs2.1
      rw [flat_len Part.cells 6 (fun _ => rfl)] at this
      omega
    subst hvn2
    repeat (first | refine kN_at ?_ | refine kB_at ?_ | refine kfld_of ?_ | refine kext_at rfl ?_ | refine kG_of (by first | exact rfl | omega) ?_ | refine klen_at ?_ | refine eql_at ?_ | refine neq_at ?_ | refine lss_at ?_ | refine leq_at ?_ | refine gtr_at ?_ | refine geq_at ?_ | refine add_at (by omega) (by omega) ?_ | refine sub_at (by omega) (by omega) ?_ | refine not_at ?_ | refine kO_at ?_ | refine kprt_at rfl ?_ | refine kprtN_at rfl ?_ | refine kcap_at ?_ | refine klenStr_at ?_ | refine kN_iat ?_ | refine kN_fat ?_ | refine kIf_T (by first | exact rfl | exact decT (by omega) | exact notT (decF (by omega))) ?_ | refine kIf_F (by first | exact rfl | exact decF (by omega) | exact notF (decT (by omega))) ?_)
    refine kcall_of (hhas _) ?_
    rintro v w87 ⟨rfl, rfl⟩
    rw [hbf]
    refine kB_at ?_
    refine kIf_F rfl ?_
    exact moves_tail (C69.loc h83) hL h7 hg3 (W3.cs.trans hcs2) (h83.get hx69 (fun h => h)) hokL (by omega) hvs2 (hsl69.same h83)
end Go.Proofs.YtlkpadfkmdgjcaaGreatDoor
end
section
set_option linter.unusedSimpArgs false
set_option linter.unusedVariables false
namespace Go.Proofs.YtlkpadfkmdgjcaaGreatDoor
open Go Go.Ev Go.RowKit Go.ChangeShapes Go.WideShapes Go.ChangeAt
set_option linter.unusedVariables false
set_option maxRecDepth 100000
namespace ST
/-- The door's own heap meets the condition. -/
theorem door_met (os : Os) (args : Array Value) : laidMetH Tryz.prog Rows.storeMovesRow.laid ((World.doorLaid Tryz.prog 366 os).forCall (fun _ _ => 0) ⟨#[], args, []⟩).memory :=
  laidMetH_of_parts3 (fuel := 8) (laidMet_of_run' 8 (by kernel_rfl) (by kernel_rfl)) (by kernel_rfl) (by kernel_rfl)
theorem lifted (os : Os) (started : os.Started) (H : Type) (enc : TypeId × Value → H) :
    ReturnsInHanded {} Tryz.checked os 4 .any (fun w args => (Rows.storeMovesSpec.pre enc Tryz.prog Tryz.f4 [] false w args ∧ laidMetH Tryz.prog Rows.storeMovesRow.laid w) ∧ sizedMet enc Tryz.prog Tryz.f4 (OpenSpec.ofChange Rows.storeMovesSpec) false w args)
      (Rows.storeMovesSpec.post enc Tryz.prog Tryz.f4 false true false false) := by
  refine returnsInHanded_of_change_and (C := Tryz.checked) (X := fun w _ => laidMetH Tryz.prog Rows.storeMovesRow.laid w) (fun _ _ _ hh h => h.of_heap hh) own started (by kernel_rfl) Tryz.func4
    (ChangeSpec.witness_shaped (enc := enc) (C := Tryz.checked) (os := os) (X := fun w _ => laidMetH Tryz.prog Rows.storeMovesRow.laid w) false (World.doorLaid Tryz.prog 366 os) #[.int .u32 0, .int .i64 0, .int .i64 0] 8 rfl (World.shaped_of_RefB (by kernel_rfl) (by kernel_rfl)) (by kernel_rfl) (by kernel_rfl) (by kernel_rfl) (door_met os _)) ?_
  intro W base args ds gs before hval0 hW _ _ hL _
  have hval : ∀ (j : Nat) t v, Tryz.f4.params[j]? = some t → args[j]? = some v → Value.okWide Tryz.prog W .any base t v := hval0
  have hW' := hW
  obtain ⟨p, q, hA0, hV, rfl, hfz, hnd⟩ := hW
  have hA : DataW.TrodAll enc Tryz.prog W 0 (fun _ => true) true Tryz.f4.params.toList args.toList ds p := hA0
  rw [Tryz.params4] at hA hval
  obtain ⟨v0, vs0, d0, ds0, p0, q0, hargs, rfl, rfl, h0, r0⟩ := trodAll_cons hA
  obtain ⟨v1, vs1, d1, ds1, p1, q1, rfl, rfl, rfl, h1, r1⟩ := trodAll_cons r0
  obtain ⟨v2, vs2, d2, ds2, p2, q2, rfl, rfl, rfl, h2, r2⟩ := trodAll_cons r1
  obtain ⟨rfl, rfl, rfl⟩ := trodAll_nil r2
  obtain rfl : args = #[v0, v1, v2] := by cases args; simp_all
  obtain ⟨rfl, rfl⟩ := trodVars_none hV
  obtain ⟨y, rfl, rfl, rfl, w0⟩ := open_int Tryz.underlying24 (hval 0 24 v0 rfl rfl) h0
  obtain ⟨x, rfl, rfl, rfl, w1⟩ := open_int Tryz.underlying3 (hval 1 3 v1 rfl rfl) h1
  obtain ⟨z, rfl, rfl, rfl, w2⟩ := open_int Tryz.underlying3 (hval 2 3 v2 rfl rfl) h2
  obtain ⟨⟨S, hS⟩, hD⟩ := laid_of hL
  obtain ⟨hy0, hy1⟩ := u32_wf w0
  have hmet := moves_spec hD hS (by decide) (by decide) (m0 := y.toNat) (by omega) x (value := z) (i64_wf w2)
  have ey : msk y.toNat = .int .u32 y := by
    show Value.int .u32 (y.toNat : Int) = _
    rw [Int.toNat_of_nonneg hy0]
  rw [ey] at hmet
  refine hmet.2.mono fun e W' he => ?_
  obtain ⟨v, rfl, rfl, hsame⟩ := he
  have bel := hsame.below
  exact ⟨_, rfl, _, _, _, [], _, [], hW', trodAll_mk1 (shut_bool Tryz.underlying4 _),
    trodAll_cons_mk (shut_int Tryz.underlying24 w0)
      (trodAll_cons_mk (shut_int Tryz.underlying3 w1) (trodAll_cons_mk (shut_int Tryz.underlying3 w2) trodAll_mk0)), rfl, bel.frame _, fun h => by cases h⟩
end ST
end Go.Proofs.YtlkpadfkmdgjcaaGreatDoor
end
