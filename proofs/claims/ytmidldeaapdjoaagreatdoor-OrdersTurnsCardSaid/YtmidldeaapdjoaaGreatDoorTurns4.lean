/-
Lemmas for the statements of this seat: no statement of the seat is proved in this part (4 of 7); the conditions stand in each theorem.
-/
import Derived.Test.YtmidldeaapdjoaaGreatDoorTurns3
import Derived.Lib.SliceRun
import Derived.Test.YtmidldeaapdjoaaGreatDoorProg
import Derived.Lib.ConvBytes
set_option linter.unusedSimpArgs false
set_option linter.unusedVariables false
set_option maxRecDepth 100000
namespace Go.Proofs.YtmidldeaapdjoaaGreatDoor
open Go Go.Ev
section
attribute [local irreducible] kO kB kStr kInt kN kG kIf kfld kld kldN kst knew kmap kbld kbldS kext kcnv klenStr klen kcap kprt kprtN kbool kint kstr keq kun ksl kix kiv kta kmk kmm ksem ksemU kextf kcallV kcallM kcall kL
theorem layS_0 (S : SM) : layS S 0 = S := by simp [layS]
theorem layS_1 (S : SM) (j : Nat) : layS (layS S j) 1 = layS S (j + 1) := by
 unfold layS
 simp only [List.append_assoc]
 have e : List.replicate j TabM.empty ++ List.replicate 1 TabM.empty = List.replicate (j + 1) TabM.empty := by
  rw [List.replicate_succ' (n := j)]; rfl
 rw [e]
theorem sLay_spec {o : Lab} {w : World} (hD : DeAt w) {b : Nat} {p : Ptrs} {S : SM} (h : StoreP o w b p S) (hDo : o 9 = none) :
  Meets Tryz.prog 49 #[ptrV b] w fun v w' => v = .nilIface ∧ Turned o w b (layS S (S.masks.length - S.tabs.length)) w' := by
 have hDlt := hD.lt
 rw [ptrV]
 refine f49_ok ?_
 unfold f49
 have hb0 := h.here
 obtain ⟨ta0, tn0, tc0, et0, hts0, htn0⟩ := h.tabs.is
 have htn0 : tn0 = S.tabs.length := by simpa using htn0 rfl
 rw [et0] at hb0
 subst htn0
 repeat (first | refine kN_at ?_ | refine kB_at ?_ | refine kfld_of ?_ | refine kext_at rfl ?_ | refine kld_at hb0 rfl ?_ | refine kldN_at hb0 rfl (by omega) ?_ | refine kG_of (by first | exact rfl | omega) ?_ | refine klen_at ?_ | refine eql_at ?_ | refine neq_at ?_ | refine lss_at ?_ | refine leq_at ?_ | refine gtr_at ?_ | refine geq_at ?_ | refine add_at (by omega) (by omega) ?_ | refine sub_at (by omega) (by omega) ?_ | refine not_at ?_ | refine kO_at ?_ | refine kprt_at rfl ?_ | refine kprtN_at rfl ?_ | refine kcap_at ?_ | refine klenStr_at ?_ | refine kN_iat ?_ | refine kN_fat ?_ | refine kIf_T (by first | exact rfl | exact decT (by omega) | exact notT (decF (by omega))) ?_ | refine kIf_F (by first | exact rfl | exact decF (by omega) | exact notF (decT (by omega))) ?_)
 refine kL1_of (S.masks.length - S.tabs.length) (fun j x wr => x = natV (S.tabs.length + j) ∧ j ≤ S.masks.length - S.tabs.length ∧ Turned o w b (layS S j) wr) ⟨lI1_0 ⟨rfl, by omega, cutL o w.heap.size, p, LabEq.cut w o, ?_, Mod.refl _ _, fun k hk => cutL_none hk⟩, fun x wr hx => ?_⟩
 ·rw [layS_0]; exact h.cut (Mod.refl _ _)
 obtain ⟨j, hj, ⟨rfl, _, o1, p1, hl1, hP1, hm1, hc1⟩, hJ⟩ := lI1_step hx
 have hDr : DeAt wr := hD.mod hm1 fun ⟨t, e1, _⟩ => by rw [hDo] at e1; cases e1
 have hbr := hP1.here
 have hcs : (layS S j).cs = S.cs := rfl
 have hms : (layS S j).masks = S.masks := rfl
 have htl : (layS S j).tabs.length = S.tabs.length + j := by simp [layS]
 unfold f49_0
 repeat (first | refine kN_at ?_ | refine kB_at ?_ | refine kfld_of ?_ | refine kext_at rfl ?_ | refine kld_at hbr rfl ?_ | refine kldN_at hbr rfl (by omega) ?_ | refine kG_of (by first | exact rfl | omega) ?_ | refine klen_at ?_ | refine eql_at ?_ | refine neq_at ?_ | refine lss_at ?_ | refine leq_at ?_ | refine gtr_at ?_ | refine geq_at ?_ | refine add_at (by omega) (by omega) ?_ | refine sub_at (by omega) (by omega) ?_ | refine not_at ?_ | refine kO_at ?_ | refine kprt_at rfl ?_ | refine kprtN_at rfl ?_ | refine kcap_at ?_ | refine klenStr_at ?_ | refine kN_iat ?_ | refine kN_fat ?_ | refine kIf_T (by first | exact rfl | exact decT (by omega) | exact notT (decF (by omega))) ?_ | refine kIf_F (by first | exact rfl | exact decF (by omega) | exact notF (decT (by omega))) ?_)
 refine kcall_of (lenAt_spec hP1.atlas) ?_
 rintro v w8 ⟨rfl, rfl⟩
 rw [natV, natV]
 refine lss_at ?_
 refine kB_at ?_
 refine kIf_dec (fun hlt => ?_) (fun hge => ?_)
 ·have hlt : S.tabs.length + j < S.masks.length := by rw [hms] at hlt; omega
  have hi : S.tabs.length + j < (layS S j).masks.length := hlt
  unfold f49_1
  repeat (first | refine kN_at ?_ | refine kB_at ?_ | refine kfld_of ?_ | refine kext_at rfl ?_ | refine kld_at hbr rfl ?_ | refine kldN_at hbr rfl (by omega) ?_ | refine kG_of (by first | exact rfl | omega) ?_ | refine klen_at ?_ | refine eql_at ?_ | refine neq_at ?_ | refine lss_at ?_ | refine leq_at ?_ | refine gtr_at ?_ | refine geq_at ?_ | refine add_at (by omega) (by omega) ?_ | refine sub_at (by omega) (by omega) ?_ | refine not_at ?_ | refine kO_at ?_ | refine kprt_at rfl ?_ | refine kprtN_at rfl ?_ | refine kcap_at ?_ | refine klenStr_at ?_ | refine kN_iat ?_ | refine kN_fat ?_ | refine kIf_T (by first | exact rfl | exact decT (by omega) | exact notT (decF (by omega))) ?_ | refine kIf_F (by first | exact rfl | exact decF (by omega) | exact notF (decT (by omega))) ?_)
  refine kcall_of (maskAt_spec hP1.atlas (S.tabs.length + j) hi) ?_
  rintro v w13 ⟨rfl, rfl⟩
  repeat (first | refine kN_at ?_ | refine kB_at ?_ | refine kfld_of ?_ | refine kext_at rfl ?_ | refine kG_of (by first | exact rfl | omega) ?_ | refine klen_at ?_ | refine eql_at ?_ | refine neq_at ?_ | refine lss_at ?_ | refine leq_at ?_ | refine gtr_at ?_ | refine geq_at ?_ | refine add_at (by omega) (by omega) ?_ | refine sub_at (by omega) (by omega) ?_ | refine not_at ?_ | refine kO_at ?_ | refine kprt_at rfl ?_ | refine kprtN_at rfl ?_ | refine kcap_at ?_ | refine klenStr_at ?_ | refine kN_iat ?_ | refine kN_fat ?_ | refine kIf_T (by first | exact rfl | exact decT (by omega) | exact notT (decF (by omega))) ?_ | refine kIf_F (by first | exact rfl | exact decF (by omega) | exact notF (decT (by omega))) ?_)
  rw [keq_nil_nil' ifErr]
  repeat (first | refine kN_at ?_ | refine kB_at ?_ | refine kfld_of ?_ | refine kext_at rfl ?_ | refine kG_of (by first | exact rfl | omega) ?_ | refine klen_at ?_ | refine eql_at ?_ | refine neq_at ?_ | refine lss_at ?_ | refine leq_at ?_ | refine gtr_at ?_ | refine geq_at ?_ | refine add_at (by omega) (by omega) ?_ | refine sub_at (by omega) (by omega) ?_ | refine not_at ?_ | refine kO_at ?_ | refine kprt_at rfl ?_ | refine kprtN_at rfl ?_ | refine kcap_at ?_ | refine klenStr_at ?_ | refine kN_iat ?_ | refine kN_fat ?_ | refine kIf_T (by first | exact rfl | exact decT (by omega) | exact notT (decF (by omega))) ?_ | refine kIf_F (by first | exact rfl | exact decF (by omega) | exact notF (decT (by omega))) ?_)
  have hmlt := mk_of hP1 _ (List.getElem_mem hi)
  have hmi : (layS S j).masks[S.tabs.length + j] = S.masks[S.tabs.length + j] := rfl
  have hcomps : compsM S.masks (S.tabs.length + j) = listF (S.masks[S.tabs.length + j]) := by
   unfold compsM; rw [List.getElem?_eq_getElem hlt]; rfl
  rw [hmi] at hmlt
  rw [hmi]
  rw [hcs] at hmlt
  generalize hm : S.masks[S.tabs.length + j] = m at *
  have hg16 := hP1.good.1
  rw [hcs] at hg16
  have hm32 : m < 4294967296 := by
   have : 2 ^ S.cs.length ≤ 2 ^ 16 := Nat.pow_le_pow_right (by omega) hg16
   omega
  unfold f49_2
  refine kmap_of fun w19 h19 hs19 hm19 => ?_
  refine kbld_of (cs := [.slice none 0 0, .map (some w13.heap.size)]) rfl ?_
  refine knew_of fun w22 h22 hs22 hb22 => ?_
  have hb22 : blk w22 w19.heap.size = some (.cells #[.slice none 0 0, .map (some w13.heap.size)] 128) := hb22
  have m22 := h19.trans h22
  refine kcall_of (List_spec (hDr.same m22) m hm32) ?_
  rintro v w24 ⟨la, lc, rfl, hls, h24, hlf⟩
  have m24 := m22.trans h24
  refine klen_at ?_
  have hl32 := listF_len m
  have hmle0 : S.masks.length ≤ 90000 := hP1.mle
  have hT0 : TabUp (tabLab o1 w13.heap.size w13.heap.size w19.heap.size (S.tabs.length + j)) w24 w19.heap.size w13.heap.size (S.tabs.length + j) [] (wdF S.cs) (fun _ => 0) :=
   ⟨by unfold tabLab; rw [if_neg (by omega), if_neg (by omega), if_pos rfl], h24.get hb22 (fun h => h), by unfold tabLab; rw [if_neg (by omega), if_pos rfl], ((hm19 .i64).same h22).same h24, fun c hc => by cases hc⟩
  refine kL1_of (listF m).length (fun q x wi => x = .int .i64 q ∧ ∃ o' pc, LabEq w13 o1 o' ∧ Mod (fun k => k = w13.heap.size) w24 wi ∧ TabUp o' wi w19.heap.size w13.heap.size (S.tabs.length + j) ((listF m).take q) (wdF S.cs) pc)
   ⟨lI1_0 ⟨rfl, tabLab o1 w13.heap.size w13.heap.size w19.heap.size (S.tabs.length + j), fun _ => 0, (fun k hk => by unfold tabLab; rw [if_pos hk]), Mod.refl _ _, by simpa using hT0⟩, fun x wi hx2 => ?_⟩
  obtain ⟨q, hq, ⟨rfl, o', pc, hlo, hmi2, hTU⟩, hJ2⟩ := lI1_step hx2
  have hbmlt : w13.heap.size < w22.heap.size := by omega
  have mi : Same w13 wi := m24.trans' (hmi2.mono fun k _ e => .inr (by omega))
  have hlsi : SlIs wi la (listF m).length 1 ((listF m).map natV) := hls.mod hmi2 fun bb oo e ek => by have := hlf bb oo e; omega
  unfold f49_3
  refine lss_at ?_
  refine kB_at ?_
  refine kIf_dec (fun hlq => ?_) (fun hgq => ?_)
  ·have hlq : q < (listF m).length := by omega
   have hbi := mi.get hbr (fun h => h)
   have hcmem : (listF m)[q] ∈ listF m := List.getElem_mem hlq
   have hclt := listF_lt hmlt hcmem
   obtain ⟨hw1, hw2, hw3⟩ := wdF_of (cs := S.cs) hP1.good hclt
   have hsch := hP1.sch.same mi
   have hnin : (listF m)[q] ∉ (listF m).take q := by
    intro hin
    obtain ⟨a, ha, e⟩ := List.mem_iff_getElem.1 hin
    rw [List.getElem_take] at e
    have hal : a < q := by simp at ha; omega
    have := (List.pairwise_iff_getElem.1 (listF_nodup m)) a q (by omega) hlq hal
    exact this e
   generalize hcq : (listF m)[q] = c at *
   unfold f49_4
   refine kixld_of (F := natV) hlsi hlq rfl ?_
   rw [hcq]
   repeat (first | refine kN_at ?_ | refine kB_at ?_ | refine kfld_of ?_ | refine kext_at rfl ?_ | refine kld_at hbi rfl ?_ | refine kldN_at hbi rfl (by omega) ?_ | refine kG_of (by first | exact rfl | omega) ?_ | refine klen_at ?_ | refine eql_at ?_ | refine neq_at ?_ | refine lss_at ?_ | refine leq_at ?_ | refine gtr_at ?_ | refine geq_at ?_ | refine add_at (by omega) (by omega) ?_ | refine sub_at (by omega) (by omega) ?_ | refine not_at ?_ | refine kO_at ?_ | refine kprt_at rfl ?_ | refine kprtN_at rfl ?_ | refine kcap_at ?_ | refine klenStr_at ?_ | refine kN_iat ?_ | refine kN_fat ?_ | refine kIf_T (by first | exact rfl | exact decT (by omega) | exact notT (decF (by omega))) ?_ | refine kIf_F (by first | exact rfl | exact decF (by omega) | exact notF (decT (by omega))) ?_)
   rw [natV]
   refine kixfld_of (F := Comp.cells) (fun _ => rfl) hsch hclt (v := .int .i64 (wdF S.cs c)) (congrArg (fun z : Int => some (Value.int .i64 z)) hw1) rfl ?_
   refine kcall_of (cNew_spec o' wi (S.tabs.length + j) c (wdF S.cs c) (by omega) hw2 hw3) ?_
   rintro v w37 ⟨rfl, h37, hs37, hC37⟩
   repeat (first | refine kN_at ?_ | refine kB_at ?_ | refine kfld_of ?_ | refine kext_at rfl ?_ | refine kG_of (by first | exact rfl | omega) ?_ | refine klen_at ?_ | refine eql_at ?_ | refine neq_at ?_ | refine lss_at ?_ | refine leq_at ?_ | refine gtr_at ?_ | refine geq_at ?_ | refine add_at (by omega) (by omega) ?_ | refine sub_at (by omega) (by omega) ?_ | refine not_at ?_ | refine kO_at ?_ | refine kprt_at rfl ?_ | refine kprtN_at rfl ?_ | refine kcap_at ?_ | refine klenStr_at ?_ | refine kN_iat ?_ | refine kN_fat ?_ | refine kIf_T (by first | exact rfl | exact decT (by omega) | exact notT (decF (by omega))) ?_ | refine kIf_F (by first | exact rfl | exact decF (by omega) | exact notF (decT (by omega))) ?_)
   rw [keq_nil_nil' ifErr]
   obtain ⟨t1, t2, t3, t4, t5⟩ := hTU
   have t2' := h37.get t2 (fun h => h)
   have lb1 := lt_of_blk t2
   have lb2 := lt_of_blk t4
   repeat (first | refine kN_at ?_ | refine kB_at ?_ | refine kfld_of ?_ | refine kext_at rfl ?_ | refine kld_at t2' rfl ?_ | refine kldN_at t2' rfl (by omega) ?_ | refine kG_of (by first | exact rfl | omega) ?_ | refine klen_at ?_ | refine eql_at ?_ | refine neq_at ?_ | refine lss_at ?_ | refine leq_at ?_ | refine gtr_at ?_ | refine geq_at ?_ | refine add_at (by omega) (by omega) ?_ | refine sub_at (by omega) (by omega) ?_ | refine not_at ?_ | refine kO_at ?_ | refine kprt_at rfl ?_ | refine kprtN_at rfl ?_ | refine kcap_at ?_ | refine klenStr_at ?_ | refine kN_iat ?_ | refine kN_fat ?_ | refine kIf_T (by first | exact rfl | exact decT (by omega) | exact notT (decF (by omega))) ?_ | refine kIf_F (by first | exact rfl | exact decF (by omega) | exact notF (decT (by omega))) ?_)
   have hlkn := lk_none (fun d => ptrV (pc d)) (c : Int) ((listF m).take q) (fun x hx e => hnin (by
    have : x = c := by omega
    exact this ▸ hx))
   refine kmapUp_of Tryz.underlying126 Tryz.underlying3 (t4.same h37) hlkn fun w45 h45 hs45 hM45 => ?_
   repeat (first | refine kN_at ?_ | refine kB_at ?_ | refine kfld_of ?_ | refine kext_at rfl ?_ | refine kG_of (by first | exact rfl | omega) ?_ | refine klen_at ?_ | refine eql_at ?_ | refine neq_at ?_ | refine lss_at ?_ | refine leq_at ?_ | refine gtr_at ?_ | refine geq_at ?_ | refine add_at (by omega) (by omega) ?_ | refine sub_at (by omega) (by omega) ?_ | refine not_at ?_ | refine kO_at ?_ | refine kprt_at rfl ?_ | refine kprtN_at rfl ?_ | refine kcap_at ?_ | refine klenStr_at ?_ | refine kN_iat ?_ | refine kN_fat ?_ | refine kIf_T (by first | exact rfl | exact decT (by omega) | exact notT (decF (by omega))) ?_ | refine kIf_F (by first | exact rfl | exact decF (by omega) | exact notF (decT (by omega))) ?_)
   rw [cast_succ]
   have hsi := mi.size
   have m45 : Mod (fun k => k = w13.heap.size) w24 w45 := (hmi2.trans (Mod.of_same h37)).trans h45
   have lwi := mi.size
   have ecl : (listF m).take (q + 1) = (listF m).take q ++ [c] := by
    rw [List.take_add_one, List.getElem?_eq_getElem hlq, hcq]; rfl
   refine hJ2 _ _ hlq ⟨rfl, ext o' wi.heap.size (.col (S.tabs.length + j) c), updN pc c wi.heap.size, hlo.trans (LabEq.ext wi o' _) mi.size, m45, ?_, ?_, ?_, ?_, ?_⟩
   ·unfold ext; rw [if_pos lb1]; exact t1
   ·exact h45.get t2' (by omega)
   ·unfold ext; rw [if_pos lb2]; exact t3
   ·have e : ((listF m).take (q + 1)).map (fun (d : Nat) => ((d : Int), ptrV (updN pc c wi.heap.size d))) = ((listF m).take q).map (fun (d : Nat) => ((d : Int), ptrV (pc d))) ++ [((c : Int), ptrV wi.heap.size)] := by
     rw [ecl, List.map_append, List.map_cons, List.map_nil, updN_same]
     congr 1
     apply List.map_congr_left
     intro d hd
     rw [updN_ne _ (by rintro rfl; exact hnin hd)]
    rw [e]; exact hM45
   ·intro d hd
    rw [ecl] at hd
    rcases List.mem_append.1 hd with hd1 | hd1
    ·rw [updN_ne _ (fun e : d = c => hnin (e ▸ hd1))]
     refine (((t5 d hd1).frame h37 (fun _ _ _ _ h => h) (LabEq.ext wi o' _)).frame h45 (fun k t e et ek => ?_) (LabEq.refl _ _))
     subst ek
     unfold ext at e
     rw [if_pos lb2, t3] at e
     cases e
     rcases et with h | h | h <;> cases h
    ·have : d = c := by simpa using hd1
     subst this
     rw [updN_same]
     refine hC37.frame h45 (fun k t e et ek => ?_) (LabEq.refl _ _)
     subst ek
     unfold ext at e
     rw [if_pos lb2, t3] at e
     cases e
     rcases et with h | h | h <;> cases h
  ·have : q = (listF m).length := by omega
   subst this
   rw [List.take_length] at hTU
   have hPi := hP1.frame mi (fun _ _ _ h => h) hlo
   have hbi := hPi.here
   obtain ⟨ta, tn, tc, et, hts, htn⟩ := hPi.tabs.is
   have htn : tn = S.tabs.length + j := by
    have := htn rfl
    rw [List.length_map, List.length_range, htl] at this
    exact this
   rw [et] at hbi
   subst htn
   repeat (first | refine kN_at ?_ | refine kB_at ?_ | refine kfld_of ?_ | refine kext_at rfl ?_ | refine kld_at hbi rfl ?_ | refine kldN_at hbi rfl (by omega) ?_ | refine kG_of (by first | exact rfl | omega) ?_ | refine klen_at ?_ | refine eql_at ?_ | refine neq_at ?_ | refine lss_at ?_ | refine leq_at ?_ | refine gtr_at ?_ | refine geq_at ?_ | refine add_at (by omega) (by omega) ?_ | refine sub_at (by omega) (by omega) ?_ | refine not_at ?_ | refine kO_at ?_ | refine kprt_at rfl ?_ | refine kprtN_at rfl ?_ | refine kcap_at ?_ | refine klenStr_at ?_ | refine kN_iat ?_ | refine kN_fat ?_ | refine kIf_T (by first | exact rfl | exact decT (by omega) | exact notT (decF (by omega))) ?_ | refine kIf_F (by first | exact rfl | exact decF (by omega) | exact notF (decT (by omega))) ?_)
   refine kbldS_of (cs := [ptrV w19.heap.size]) rfl fun w51 h51 hs51 hb51 => ?_
   have hP51 := hPi.frame h51 (fun _ _ _ h => h) (LabEq.cut wi o')
   have ht51 := hP51.tabs
   rw [et] at ht51
   have hmle := hP1.mle
   refine ksem_append apTab (by omega) ht51 (Src.ofSlIs (hk := slTab_is.choose_spec) 1 (SlIs.blk hb51 rfl) rfl) (by simp; omega) (by simp; omega) ?_
   intro v' w53 ho53 hm53 hf53
   have hb53 := hm53.get (h51.get hbi (fun h => h)) (fun e => by
    have := hP51.tabsl b (by rw [et]; exact e)
    rw [hP51.lab] at this; cases this)
   obtain ⟨a', n', c', rfl, _⟩ := ho53.is
   repeat (first | refine kN_at ?_ | refine kB_at ?_ | refine kfld_of ?_ | refine kext_at rfl ?_ | refine kG_of (by first | exact rfl | omega) ?_ | refine klen_at ?_ | refine eql_at ?_ | refine neq_at ?_ | refine lss_at ?_ | refine leq_at ?_ | refine gtr_at ?_ | refine geq_at ?_ | refine add_at (by omega) (by omega) ?_ | refine sub_at (by omega) (by omega) ?_ | refine not_at ?_ | refine kO_at ?_ | refine kprt_at rfl ?_ | refine kprtN_at rfl ?_ | refine kcap_at ?_ | refine klenStr_at ?_ | refine kN_iat ?_ | refine kN_fat ?_ | refine kIf_T (by first | exact rfl | exact decT (by omega) | exact notT (decF (by omega))) ?_ | refine kIf_F (by first | exact rfl | exact decF (by omega) | exact notF (decT (by omega))) ?_)
   refine kst1_of hb53 rfl rfl (by simp) fun w55 h55 hs55 hb55 => ?_
   simp only [List.setIfInBounds_toArray, List.set_cons_succ, List.set_cons_zero] at hb55
   repeat (first | refine kN_at ?_ | refine kB_at ?_ | refine kfld_of ?_ | refine kext_at rfl ?_ | refine kG_of (by first | exact rfl | omega) ?_ | refine klen_at ?_ | refine eql_at ?_ | refine neq_at ?_ | refine lss_at ?_ | refine leq_at ?_ | refine gtr_at ?_ | refine geq_at ?_ | refine add_at (by omega) (by omega) ?_ | refine sub_at (by omega) (by omega) ?_ | refine not_at ?_ | refine kO_at ?_ | refine kprt_at rfl ?_ | refine kprtN_at rfl ?_ | refine kcap_at ?_ | refine klenStr_at ?_ | refine kN_iat ?_ | refine kN_fat ?_ | refine kIf_T (by first | exact rfl | exact decT (by omega) | exact notT (decF (by omega))) ?_ | refine kIf_F (by first | exact rfl | exact decF (by omega) | exact notF (decT (by omega))) ?_)
   have hm55 : Mod (fun k => k = b ∨ vblk p1.tv k) w51 w55 := (hm53.mono fun k _ e => .inr (by rw [et]; exact e)).trans (h55.mono fun k _ e => .inl e)
   have lb51 := lt_of_blk hP51.here
   have hTA := hTU.done
   have lw51 : wi.heap.size ≤ w51.heap.size := h51.size
   have hlt1 : LabEq w51 (cutL o' wi.heap.size) (ext (cutL o' wi.heap.size) w51.heap.size .tabs) := LabEq.ext _ _ _
   have hTA51 : TabAt (ext (cutL o' wi.heap.size) w51.heap.size .tabs) w55 w19.heap.size (S.tabs.length + j) (compsM S.masks (S.tabs.length + j)) (wdF S.cs) pc TabM.empty := by
    rw [hcomps]
    refine ((hTA.frame h51 (fun _ _ _ _ h => h) (LabEq.cut wi o')).frame hm55 (fun k t e et2 ek => ?_) hlt1)
    rcases ek with rfl | ek
    ·rw [hP51.lab] at e; cases e
     rcases et2 with h | h | h | ⟨d, h | h | h⟩ <;> cases h
    ·rw [hP51.tabsl k ek] at e; cases e
     rcases et2 with h | h | h | ⟨d, h | h | h⟩ <;> cases h
   have hnew := hP51.addTab (tv' := .slice a' n' c') (bt := w19.heap.size) (pc' := pc) (by rw [htl]; exact hi) hlt1 hm55 hb55 (ho53.mod h55 fun k hk e => by
     subst e
     rcases hf53 _ hk with h | h
     ·have := hP51.tabsl _ (by rw [et]; exact h)
      rw [hP51.lab] at this; cases this
     ·omega) (fun k hk => by
     unfold ext
     rcases hf53 k hk with h | h
     ·have h' : vblk p1.tv k := by rw [et]; exact h
      have := hP51.tabs.vblk_lt h'
      rw [if_pos this]
      exact hP51.tabsl k h'
     ·rw [if_neg (by omega)]) (by rw [htl]; exact hTA51)
   rw [layS_1] at hnew
   have hJt : natV (S.tabs.length + (j + 1)) = .int .i64 (((S.tabs.length + j : Nat) : Int) + 1) := by
    unfold natV
    congr 1
   rw [← hJt]
   have lwi := mi.size
   refine hJ _ _ (by omega) ⟨rfl, by omega, cutL (ext (cutL o' wi.heap.size) w51.heap.size .tabs) w55.heap.size, _, fun k hk => ?_, hnew.frame (Mod.refl (fun _ => False) _) (fun _ _ _ h => h) (LabEq.cut w55 _), ?_, fun k hk => cutL_none hk⟩
   ·have h1 := hm1.size
    have h2 := hm55.size
    unfold cutL ext
    rw [if_pos (by omega), if_pos (by omega)]
    show (if k < wi.heap.size then o' k else none) = o k
    rw [if_pos (by omega), hlo k (by omega)]
    exact hl1 k hk
   ·refine hm1.trans' ((Mod.of_same (mi.trans h51)).trans (hm55.mono fun k hk e => ?_))
    rcases Nat.lt_or_ge k w.heap.size with hkw | hkw
    ·left
     have hlab : ∃ t, o k = some t := by
      have h1 := hm1.size
      have e1 : cutL o' wi.heap.size k = o k := by
       unfold cutL
       rw [if_pos (by omega), hlo k (by omega)]
       exact hl1 k hkw
      rw [← e1]
      rcases e with rfl | e
      ·exact ⟨_, hP51.lab⟩
      ·exact ⟨_, hP51.tabsl k e⟩
     obtain ⟨t, ht⟩ := hlab
     exact ⟨t, ht, trivial⟩
    ·exact .inr hkw
 ·have : j = S.masks.length - S.tabs.length := by rw [hms] at hge; omega
  subst this
  exact ⟨rfl, o1, p1, hl1, hP1, hm1, hc1⟩
end
section
attribute [local irreducible] kO kB kStr kInt kN kG kIf kfld kld kldN kst knew kmap kbld kbldS kext kcnv klenStr klen kcap kprt kprtN kbool kint kstr keq kun ksl kix kiv kta kmk kmm ksem ksemU kextf kcallV kcallM kcall kL
def FitsP (cs : List Comp) (q : Part) : Prop := ∃ c : Nat, q.comp = c ∧ c < cs.length ∧ q.clean (wdF cs c)
theorem clean_get {q : Part} {wd j : Nat} (h : q.clean wd) (h1 : 1 ≤ wd) (hj : j < 4 - wd) : q.cells[1 + wd + j]? = some (.int .i64 0) := by
 unfold Part.clean Part.vals at h
 have hw' : wd = 1 ∨ wd = 2 ∨ wd = 3 := by omega
 have hj' : j = 0 ∨ j = 1 ∨ j = 2 := by omega
 rcases hw' with rfl | rfl | rfl <;> rcases hj' with rfl | rfl | rfl <;> first | omega | (simp at h; simp [Part.cells, h])
theorem sFits_spec {o : Lab} {w : World} {b : Nat} {p : Ptrs} {S : SM} (h : StoreP o w b p S) (q : Part) (hq : FitsP S.cs q) :
  Meets Tryz.prog 57 #[ptrV b, .agg q.cells.toArray] w fun v w' => v = .bool true ∧ Same w w' := by
 obtain ⟨c, hqc, hcl, hcln⟩ := hq
 obtain ⟨hw1, hw2, hw3⟩ := wdF_of h.good hcl
 have hg := h.good.1
 rw [ptrV]
 refine f57_ok ?_
 unfold f57
 refine knew_of fun w2 hm2 hs2 hb2 => ?_
 have hb2 : blk w2.drew w.heap.size = some (.cells q.cells.toArray 47) := hb2
 have m2 := hm2.drew
 generalize w2.drew = wa at *
 have hba := m2.get h.here (fun h => h)
 refine kfld_of ?_
 refine kld_of (v := .int .i64 c) hb2 (by simp [Part.cells, hqc]) ?_
 refine kG_of rfl ?_
 refine lss_at ?_
 refine kB_at ?_
 refine kIf_T (notT (decF (by omega))) ?_
 refine kfld_of ?_
 refine kld_of (v := .int .i64 c) hb2 (by simp [Part.cells, hqc]) ?_
 repeat (first | refine kN_at ?_ | refine kB_at ?_ | refine kfld_of ?_ | refine kext_at rfl ?_ | refine kld_at hba rfl ?_ | refine kldN_at hba rfl (by omega) ?_ | refine kG_of (by first | exact rfl | omega) ?_ | refine klen_at ?_ | refine eql_at ?_ | refine neq_at ?_ | refine lss_at ?_ | refine leq_at ?_ | refine gtr_at ?_ | refine geq_at ?_ | refine add_at (by omega) (by omega) ?_ | refine sub_at (by omega) (by omega) ?_ | refine not_at ?_ | refine kO_at ?_ | refine kprt_at rfl ?_ | refine kprtN_at rfl ?_ | refine kcap_at ?_ | refine klenStr_at ?_ | refine kN_iat ?_ | refine kN_fat ?_ | refine kIf_T (by first | exact rfl | exact decT (by omega) | exact notT (decF (by omega))) ?_ | refine kIf_F (by first | exact rfl | exact decF (by omega) | exact notF (decT (by omega))) ?_)
 have hb2 : blk wa.drew w.heap.size = _ := hb2
 have hba : blk wa.drew b = _ := hba
 have m2 := m2.drew
 generalize wa.drew = wb at *
 refine kld_of (v := .int .i64 c) hb2 (by simp [Part.cells, hqc]) ?_
 refine kG_of rfl ?_
 refine kixfld_of (F := Comp.cells) (fun _ => rfl) (h.sch.same m2) hcl (v := .int .i64 (wdF S.cs c)) (congrArg (fun z : Int => some (Value.int .i64 z)) hw1) rfl ?_
 refine kG_of rfl ?_
 refine ksl_arr_lo hw3 ?_
 repeat (first | refine kN_at ?_ | refine kB_at ?_ | refine kfld_of ?_ | refine kext_at rfl ?_ | refine kG_of (by first | exact rfl | omega) ?_ | refine klen_at ?_ | refine eql_at ?_ | refine neq_at ?_ | refine lss_at ?_ | refine leq_at ?_ | refine gtr_at ?_ | refine geq_at ?_ | refine add_at (by omega) (by omega) ?_ | refine sub_at (by omega) (by omega) ?_ | refine not_at ?_ | refine kO_at ?_ | refine kprt_at rfl ?_ | refine kprtN_at rfl ?_ | refine kcap_at ?_ | refine klenStr_at ?_ | refine kN_iat ?_ | refine kN_fat ?_ | refine kIf_T (by first | exact rfl | exact decT (by omega) | exact notT (decF (by omega))) ?_ | refine kIf_F (by first | exact rfl | exact decF (by omega) | exact notF (decT (by omega))) ?_)
 refine kL1_of (4 - wdF S.cs c) (fun j x wr => x = .int .i64 j ∧ Same wb wr) ⟨lI1_0 ⟨rfl, Mod.refl _ _⟩, fun x wr hx => ?_⟩
 obtain ⟨j, hj, ⟨rfl, hm⟩, hJ⟩ := lI1_step hx
 unfold f57_2
 refine lss_at ?_
 refine kB_at ?_
 refine kIf_dec (fun hlt => ?_) (fun hge => ?_)
 ·have hlt : j < 4 - wdF S.cs c := by omega
  unfold f57_3
  rw [kix_slice]
  refine kG_of (by omega) ?_
  rw [add_mk, if_neg (by omega)]
  refine kld_of (v := .int .i64 0) (hm.get hb2 (fun h => h)) ?_ ?_
  ·have := clean_get hcln hw2 hlt
   simpa using this
  repeat (first | refine kN_at ?_ | refine kB_at ?_ | refine kfld_of ?_ | refine kext_at rfl ?_ | refine kG_of (by first | exact rfl | omega) ?_ | refine klen_at ?_ | refine eql_at ?_ | refine neq_at ?_ | refine lss_at ?_ | refine leq_at ?_ | refine gtr_at ?_ | refine geq_at ?_ | refine add_at (by omega) (by omega) ?_ | refine sub_at (by omega) (by omega) ?_ | refine not_at ?_ | refine kO_at ?_ | refine kprt_at rfl ?_ | refine kprtN_at rfl ?_ | refine kcap_at ?_ | refine klenStr_at ?_ | refine kN_iat ?_ | refine kN_fat ?_ | refine kIf_T (by first | exact rfl | exact decT (by omega) | exact notT (decF (by omega))) ?_ | refine kIf_F (by first | exact rfl | exact decF (by omega) | exact notF (decT (by omega))) ?_)
  rw [cast_succ]
  exact hJ _ _ hlt ⟨rfl, hm⟩
 ·unfold f57_5
  exact ⟨rfl, m2.trans hm⟩
theorem has_spec (m : Nat) (n : Int) (hm : m < 4294967296) (h1 : -9223372036854775808 ≤ n) (h2 : n ≤ 9223372036854775807) (w : World) : Meets Tryz.prog 87 #[msk m, .int .i64 n] w fun v w' => v = .bool (decide (m &&& bitF n ≠ 0)) ∧ w' = w := by
 refine f87_ok ?_
 unfold f87
 refine kcall_of (bit_spec n h1 h2 w) ?_
 rintro v w' ⟨rfl, rfl⟩
 rw [msk, msk, kint_and, u32_and hm (bitF_lt n), kint_neq]
 refine ⟨?_, rfl⟩
 congr 1
 simp
def maskP (L : List Part) : Nat := L.foldl (fun m q => m ||| bitF q.comp) 0
theorem maskP_snoc (L : List Part) (q : Part) : maskP (L ++ [q]) = maskP L ||| bitF q.comp := by simp [maskP]
theorem mask_fold (cs : List Comp) (hcs : cs.length ≤ 16) (c : Nat) : ∀ (L : List Part) (m : Nat), (∀ q ∈ L, FitsP cs q) → ((L.foldl (fun m q => m ||| bitF q.comp) m).testBit c = true ↔ m.testBit c = true ∨ ∃ q ∈ L, q.comp = (c : Int))
 | [], m, _ => by simp
 | q :: L, m, h => by
  rw [List.foldl_cons, mask_fold cs hcs c L _ (fun x hx => h x (by simp [hx])), Nat.testBit_or, Bool.or_eq_true]
  obtain ⟨d, e, hd, _⟩ := h q (by simp)
  have hb : (bitF q.comp).testBit c = true ↔ q.comp = (c : Int) := by
   rw [e, bitF_nat (by omega), Nat.testBit_two_pow]
   simp only [decide_eq_true_eq]
   omega
  rw [hb]
  constructor
  ·rintro ((h1 | h1) | ⟨x, hx, e⟩)
   ·exact .inl h1
   ·exact .inr ⟨q, by simp, h1⟩
   ·exact .inr ⟨x, by simp [hx], e⟩
  ·rintro (h1 | ⟨x, hx, ex⟩)
   ·exact .inl (.inl h1)
   ·rcases List.mem_cons.1 hx with rfl | hx
    ·exact .inl (.inr ex)
    ·exact .inr ⟨x, hx, ex⟩
theorem maskP_bit (cs : List Comp) (hcs : cs.length ≤ 16) (L : List Part) (h : ∀ q ∈ L, FitsP cs q) (c : Nat) : (maskP L).testBit c = true ↔ ∃ q ∈ L, q.comp = (c : Int) := by
 unfold maskP
 rw [mask_fold cs hcs c L 0 h]
 simp
theorem maskP_lt (cs : List Comp) (hcs : cs.length ≤ 16) (L : List Part) (h : ∀ q ∈ L, FitsP cs q) : maskP L < 2 ^ cs.length := by
 apply Nat.lt_pow_two_of_testBit
 intro i hi
 cases hb : (maskP L).testBit i with
 | false => rfl
 | true =>
  obtain ⟨q, hq, e⟩ := (maskP_bit cs hcs L h i).1 hb
  obtain ⟨d, e2, hd, _⟩ := h q hq
  omega
theorem apPart : appT Tryz.prog 40 6 48 = true := by kernel_rfl
theorem slPart : isSlT Tryz.prog 40 = true := by kernel_rfl
theorem slPart_is : ∃ e, Tryz.prog.underlying 40 = some (.slice e) := slT_of (by kernel_rfl)
theorem ones_parts : ∀ L : List Part, oneCells (L.flatMap Part.cells) = true
 | [] => rfl
 | q :: L => by
  rw [List.flatMap_cons]
  show oneCells (.int .i64 q.comp :: .int .i64 q.v0 :: .int .i64 q.v1 :: .int .i64 q.v2 :: .int .i64 q.v3 :: .int .i64 q.tick :: L.flatMap Part.cells) = true
  simp only [oneCells, ones_parts L]; rfl
theorem cloneP_spec {w : World} {a : Option Addr} {L : List Part} {c : Nat} (hs : SlIs w a L.length 6 (L.flatMap Part.cells)) (hn : L.length ≤ 1000000) :
  Meets Tryz.prog 111 #[.slice a L.length c] w fun v w' => Own w' v 6 (L.flatMap Part.cells) ∧ Same w w' ∧ (∀ k, vblk v k → w.heap.size ≤ k) := by
 have hfl := flat_len Part.cells 6 (fun _ => rfl) L
 refine f111_ok ?_
 unfold f111
 rw [keq_sl_nil slPart]
 cases a with
 | none =>
  have hL : L.length = 0 := by rcases hs.2 with h | ⟨_, _, _, _, _, h, _⟩; exact h; cases h
  have : L = [] := List.eq_nil_of_length_eq_zero hL
  subst this
  repeat (first | refine kN_at ?_ | refine kB_at ?_ | refine kfld_of ?_ | refine kext_at rfl ?_ | refine kG_of (by first | exact rfl | omega) ?_ | refine klen_at ?_ | refine eql_at ?_ | refine neq_at ?_ | refine lss_at ?_ | refine leq_at ?_ | refine gtr_at ?_ | refine geq_at ?_ | refine add_at (by omega) (by omega) ?_ | refine sub_at (by omega) (by omega) ?_ | refine not_at ?_ | refine kO_at ?_ | refine kprt_at rfl ?_ | refine kprtN_at rfl ?_ | refine kcap_at ?_ | refine klenStr_at ?_ | refine kN_iat ?_ | refine kN_fat ?_ | refine kIf_T (by first | exact rfl | exact decT (by omega) | exact notT (decF (by omega))) ?_ | refine kIf_F (by first | exact rfl | exact decF (by omega) | exact notF (decT (by omega))) ?_)
  exact ⟨Own.nil _ _, Mod.refl _ _, fun b hb => by obtain ⟨_, _, _, h⟩ := hb; cases h⟩
 | some a =>
  repeat (first | refine kN_at ?_ | refine kB_at ?_ | refine kfld_of ?_ | refine kext_at rfl ?_ | refine kG_of (by first | exact rfl | omega) ?_ | refine klen_at ?_ | refine eql_at ?_ | refine neq_at ?_ | refine lss_at ?_ | refine leq_at ?_ | refine gtr_at ?_ | refine geq_at ?_ | refine add_at (by omega) (by omega) ?_ | refine sub_at (by omega) (by omega) ?_ | refine not_at ?_ | refine kO_at ?_ | refine kprt_at rfl ?_ | refine kprtN_at rfl ?_ | refine kcap_at ?_ | refine klenStr_at ?_ | refine kN_iat ?_ | refine kN_fat ?_ | refine kIf_T (by first | exact rfl | exact decT (by omega) | exact notT (decF (by omega))) ?_ | refine kIf_F (by first | exact rfl | exact decF (by omega) | exact notF (decT (by omega))) ?_)
  unfold f111_0
  refine kbldS_of (cs := []) rfl fun w5 h5 hs5 hb5 => ?_
  refine ksem_append apPart (by omega) (vs := []) (Own.blk hb5 (n := 0) (by simp) (by simp [maxLen])) (Src.ofSlIs (hk := slPart_is.choose_spec) c (hs.same h5) (ones_parts L)) (by simp [hfl]; omega) (by simp [hfl]; omega) ?_
  intro v' w' ho hm hf
  refine ⟨by simpa using ho, Mod.after h5 hm (fun b hb => by rw [vblk_new hb]; exact Nat.le_refl _), fun b hb => ?_⟩
  rcases hf b hb with h | h
  ·rw [vblk_new h]; exact Nat.le_refl _
  ·omega
end
section
attribute [local irreducible] kO kB kStr kInt kN kG kIf kfld kld kldN kst knew kmap kbld kbldS kext kcnv klenStr klen kcap kprt kprtN kbool kint kstr keq kun ksl kix kiv kta kmk kmm ksem ksemU kextf kcallV kcallM kcall kL
def NoTwice (L : List Part) : Prop := (L.map (·.comp)).Nodup
theorem sGathered_spec {o : Lab} {w : World} {b : Nat} {p : Ptrs} {S : SM} (h : StoreP o w b p S) {L : List Part} {a : Option Addr} {c : Nat} (hs : SlIs w a L.length 6 (L.flatMap Part.cells)) (hn : L.length ≤ 1000000) (hf : ∀ q ∈ L, FitsP S.cs q) (hnt : NoTwice L) :
  Meets Tryz.prog 50 #[ptrV b, .slice a L.length c] w fun v w' => ∃ (sv : Value) (L' : List Part), v = .tuple #[msk (maskP L), sv, .nilIface] ∧ L'.Perm L ∧ L'.Pairwise (fun x y => x.comp ≤ y.comp) ∧ Own w' sv 6 (L'.flatMap Part.cells) ∧ Same w w' ∧ ∀ k, vblk sv k → w.heap.size ≤ k := by
 have hg := h.good.1
 have hp16 : 2 ^ S.cs.length ≤ 2 ^ 16 := Nat.pow_le_pow_right (by omega) hg
 refine f50_ok ?_
 unfold f50
 refine klen_at ?_
 refine kL3_of L.length (fun j x y z wr => z = .int .i64 j ∧ x = msk (maskP (L.take j)) ∧ y = .bool false ∧ Same w wr) ⟨lI3_0 ⟨rfl, rfl, rfl, Mod.refl _ _⟩, fun x y z wr hx => ?_⟩
 obtain ⟨j, hj, ⟨rfl, rfl, rfl, hm⟩, hJ⟩ := lI3_step hx
 unfold f50_0
 refine lss_at ?_
 refine kB_at ?_
 refine kIf_dec (fun hlt => ?_) (fun hge => ?_)
 ·have hlt : j < L.length := by omega
  have hfj := hf _ (List.getElem_mem hlt)
  obtain ⟨d, e1, e2, e3⟩ := id hfj
  have hft : ∀ q ∈ L.take j, FitsP S.cs q := fun q hq => hf q (List.mem_of_mem_take hq)
  have hml := maskP_lt S.cs hg _ hft
  have hsn : maskP (L.take (j + 1)) = maskP (L.take j) ||| bitF L[j].comp := by
   rw [List.take_add_one, List.getElem?_eq_getElem hlt]; exact maskP_snoc _ _
  unfold f50_1
  refine kixldN_of (F := Part.cells) (sz := 6) (fun _ => rfl) (by omega) (hs.same hm) hlt rfl ?_
  refine knew_of fun w7 h7 hs7 hb7 => ?_
  refine kst_of (vs := (L[j]).cells) hb7 rfl rfl rfl (by simp) (by simp [Part.cells]) fun w8 h8 hs8 hb8 => ?_
  have hb8 : blk w8 wr.heap.size = some (.cells (L[j]).cells.toArray 47) := hb8
  have m8 : Same wr w8 := h7.trans' (h8.mono fun k _ e => .inr (by omega))
  repeat (first | refine kN_at ?_ | refine kB_at ?_ | refine kfld_of ?_ | refine kext_at rfl ?_ | refine kld_at hb8 rfl ?_ | refine kldN_at hb8 rfl (by omega) ?_ | refine kG_of (by first | exact rfl | omega) ?_ | refine klen_at ?_ | refine eql_at ?_ | refine neq_at ?_ | refine lss_at ?_ | refine leq_at ?_ | refine gtr_at ?_ | refine geq_at ?_ | refine add_at (by omega) (by omega) ?_ | refine sub_at (by omega) (by omega) ?_ | refine not_at ?_ | refine kO_at ?_ | refine kprt_at rfl ?_ | refine kprtN_at rfl ?_ | refine kcap_at ?_ | refine klenStr_at ?_ | refine kN_iat ?_ | refine kN_fat ?_ | refine kIf_T (by first | exact rfl | exact decT (by omega) | exact notT (decF (by omega))) ?_ | refine kIf_F (by first | exact rfl | exact decF (by omega) | exact notF (decT (by omega))) ?_)
  refine kcall_of (sFits_spec (h.same (hm.trans m8)) L[j] hfj) ?_
  rintro v w11 ⟨rfl, h11⟩
  have hb11 := h11.get hb8 (fun h => h)
  have m11 := m8.trans h11
  repeat (first | refine kN_at ?_ | refine kB_at ?_ | refine kfld_of ?_ | refine kext_at rfl ?_ | refine kG_of (by first | exact rfl | omega) ?_ | refine klen_at ?_ | refine eql_at ?_ | refine neq_at ?_ | refine lss_at ?_ | refine leq_at ?_ | refine gtr_at ?_ | refine geq_at ?_ | refine add_at (by omega) (by omega) ?_ | refine sub_at (by omega) (by omega) ?_ | refine not_at ?_ | refine kO_at ?_ | refine kprt_at rfl ?_ | refine kprtN_at rfl ?_ | refine kcap_at ?_ | refine klenStr_at ?_ | refine kN_iat ?_ | refine kN_fat ?_ | refine kIf_T (by first | exact rfl | exact decT (by omega) | exact notT (decF (by omega))) ?_ | refine kIf_F (by first | exact rfl | exact decF (by omega) | exact notF (decT (by omega))) ?_)
  refine kld_of (v := .int .i64 d) hb11 (by simp [Part.cells, e1]) ?_
  refine kcall_of (has_spec (maskP (L.take j)) (d : Int) (by omega) (by omega) (by omega) w11) ?_
  rintro v w20 ⟨rfl, rfl⟩
  have hno : maskP (L.take j) &&& bitF (d : Int) = 0 := by
   apply Nat.eq_of_testBit_eq
   intro i
   rw [Nat.testBit_and, Nat.zero_testBit, bitF_nat (by omega), Nat.testBit_two_pow]
   by_cases hdi : d = i
   ·subst hdi
    have : (maskP (L.take j)).testBit d = false := by
     cases hb : (maskP (L.take j)).testBit d with
     | false => rfl
     | true =>
      obtain ⟨q, hq, e⟩ := (maskP_bit S.cs hg _ hft d).1 hb
      obtain ⟨k, hk, rfl⟩ := List.mem_iff_getElem.1 hq
      have hkj : k < j := by simp at hk; omega
      rw [List.getElem_take] at e
      have hp := (List.pairwise_iff_getElem.1 hnt) k j (by simp; omega) (by simpa using hlt) hkj
      simp only [List.getElem_map] at hp
      exact absurd (e.trans e1.symm) hp
    rw [this]; simp
   ·simp [hdi]
  rw [hno, show decide ((0 : Nat) ≠ 0) = false from rfl]
  refine kfld_of ?_
  refine kld_of (v := .int .i64 d) hb11 (by simp [Part.cells, e1]) ?_
  refine kcall_of (with_spec (maskP (L.take j)) (d : Int) (by omega) (by omega) (by omega) w20) ?_
  rintro v w24 ⟨rfl, rfl⟩
  repeat (first | refine kN_at ?_ | refine kB_at ?_ | refine kfld_of ?_ | refine kext_at rfl ?_ | refine kG_of (by first | exact rfl | omega) ?_ | refine klen_at ?_ | refine eql_at ?_ | refine neq_at ?_ | refine lss_at ?_ | refine leq_at ?_ | refine gtr_at ?_ | refine geq_at ?_ | refine add_at (by omega) (by omega) ?_ | refine sub_at (by omega) (by omega) ?_ | refine not_at ?_ | refine kO_at ?_ | refine kprt_at rfl ?_ | refine kprtN_at rfl ?_ | refine kcap_at ?_ | refine klenStr_at ?_ | refine kN_iat ?_ | refine kN_fat ?_ | refine kIf_T (by first | exact rfl | exact decT (by omega) | exact notT (decF (by omega))) ?_ | refine kIf_F (by first | exact rfl | exact decF (by omega) | exact notF (decT (by omega))) ?_)
  rw [cast_succ]
  refine hJ _ _ _ _ hlt ⟨rfl, ?_, rfl, hm.trans m11⟩
  rw [hsn, e1]
 ·have : j = L.length := by omega
  subst this
  rw [List.take_length]
  unfold f50_5
  refine kB_at ?_
  refine kIf_F rfl ?_
  unfold f50_6
  refine kcall_of (cloneP_spec (hs.same hm) hn) ?_
  rintro v w31 ⟨ho, h31, hf31⟩
  refine kcall_of (sorted_spec ho (by omega)) ?_
  rintro v2 w33 ⟨L', g1, g2, g3, g4⟩
  exact ⟨v, L', rfl, g1, g2, g3, (hm.trans h31).trans' (g4.mono fun k _ e => .inr (by have := hf31 k e; have := hm.size; omega)), fun k e => by have := hf31 k e; have := hm.size; omega⟩
end
section
attribute [local irreducible] kO kB kStr kInt kN kG kIf kfld kld kldN kst knew kmap kbld kbldS kext kcnv klenStr klen kcap kprt kprtN kbool kint kstr keq kun ksl kix kiv kta kmk kmm ksem ksemU kextf kcallV kcallM kcall kL
def pushC (T : TabM) (L : List Part) : TabM := ⟨T.rows, fun c => T.col c ++ L.filter fun q => decide (q.comp = (c : Int))⟩
theorem pushC_nil (T : TabM) : pushC T [] = T := by simp [pushC]
theorem apEnt : appT Tryz.prog 35 2 16 = true := by kernel_rfl
theorem slEnt_is : ∃ e, Tryz.prog.underlying 35 = some (.slice e) := slT_of (by kernel_rfl)
theorem TabAt.col {o : Lab} {w : World} {b i : Nat} {comps : List Nat} {wd pc : Nat → Nat} {T : TabM} (h : TabAt o w b i comps wd pc T) {c : Nat} (hc : c ∈ comps) : ColAt o w (pc c) i c (wd c) (T.col c) := by
 obtain ⟨_, _, _, _, _, _, _, _, hC⟩ := h
 exact hC c hc
theorem TabAt.ext {o : Lab} {w : World} {b i : Nat} {comps : List Nat} {wd pc : Nat → Nat} {T T' : TabM} (h : TabAt o w b i comps wd pc T) (hr : T'.rows = T.rows) (hc : ∀ c ∈ comps, T'.col c = T.col c) : TabAt o w b i comps wd pc T' := by
 obtain ⟨h1, rv, bm, h2, h3, h4, h5, h6, hC⟩ := h
 exact ⟨h1, rv, bm, h2, hr ▸ h3, h4, h5, h6, fun c hcm => by rw [hc c hcm]; exact hC c hcm⟩
theorem StoreP.ptab {o : Lab} {w : World} {b : Nat} {p : Ptrs} {S : SM} (h : StoreP o w b p S) {n : Nat} (hn : n < S.tabs.length) : ∃ ta tc, p.tv = .slice ta S.tabs.length tc ∧ SlIs w ta (List.range S.tabs.length).length 1 ((List.range S.tabs.length).map fun i => ptrV (p.pt i)) := by
 obtain ⟨ta, tn, tc, et, hts, htn⟩ := h.tabs.is
 have htn : tn = S.tabs.length := by simpa using htn rfl
 subst htn
 exact ⟨ta, tc, et, by simpa using hts⟩
theorem tab_set {S : SM} {n : Nat} (hn : n < S.tabs.length) (X : TabM) (h : n < (S.tabs.set n X).length) : (S.tabs.set n X)[n]'h = X := by simp
theorem StoreP.pushed {o o' : Lab} {w w' : World} {b : Nat} {p : Ptrs} {S : SM} {n : Nat} (hn : n < S.tabs.length) {L : List Part} {q : Part} {c : Nat} (h : StoreP o w b p { S with tabs := S.tabs.set n (pushC S.tabs[n] L) }) (hq : q.comp = (c : Int)) (hc : c ∈ compsM S.masks n)
  (hl : LabEq w o o') (hm : Mod (FP o (colTag n c)) w w') (hC : ColAt o' w' (p.pc n c) n c (wdF S.cs c) ((pushC S.tabs[n] L).col c ++ [q])) : StoreP o' w' b p { S with tabs := S.tabs.set n (pushC S.tabs[n] (L ++ [q])) } := by
 have hn' : n < (S.tabs.set n (pushC S.tabs[n] L)).length := by simpa using hn
 have hT := h.tab n hn'
 have e : ({ S with tabs := S.tabs.set n (pushC S.tabs[n] L) } : SM).tabs[n] = pushC S.tabs[n] L := tab_set hn _ hn'
 rw [e] at hT
 have hT' := (hT.setCol hc hl (fun _ h => h) hm hC).ext (T' := pushC S.tabs[n] (L ++ [q])) rfl (fun d hd => by
  unfold pushC
  show S.tabs[n].col d ++ (L ++ [q]).filter _ = updC (pushC S.tabs[n] L).col c _ d
  rw [List.filter_append]
  by_cases hdc : d = c
  ·subst hdc
   rw [updC_same]
   simp [pushC, hq]
  ·rw [updC_ne _ hdc]
   have : ¬ (c : Int) = (d : Int) := by omega
   simp [pushC, hq, this])
 have := h.setTab hn' hl (hm.mono fun k _ hk => FP.mono (fun t ht => .inr (.inr (.inr ⟨c, ht⟩))) hk) hT'
 simpa using this
def enterS (S : SM) (n : Nat) (i : Nat) (g : Int) (L : List Part) (hn : n < S.tabs.length) : SM :=
 { S with tabs := S.tabs.set n ⟨S.tabs[n].rows ++ [((i : Int), g)], (pushC S.tabs[n] L).col⟩, spots := S.spots.set i (n, S.tabs[n].rows.length) }
theorem sEnter_spec {o : Lab} {w : World} {b : Nat} {p : Ptrs} {S : SM} (h : StoreP o w b p S) {n : Nat} (hn : n < S.tabs.length) {i : Nat} (hi : i < S.spots.length) (g : Int) {L : List Part} {a : Option Addr} {c : Nat} (hs : SlIs w a L.length 6 (L.flatMap Part.cells))
  (hLb : ∀ k f, a = some ⟨k, f, none⟩ → o k = none) (hn16 : L.length ≤ 64) (hf : ∀ q ∈ L, FitsP S.cs q) (hin : ∀ q ∈ L, ∃ c : Nat, q.comp = (c : Int) ∧ c ∈ compsM S.masks n) (hcol : ∀ c ∈ compsM S.masks n, (S.tabs[n].col c).length + L.length < 1000000) (hrows : S.tabs[n].rows.length < 1000000) :
  Meets Tryz.prog 53 #[ptrV b, entV i g, natV n, .slice a L.length c] w fun v w' => v = .nilIface ∧ Turned o w b (enterS S n i g L hn) w' := by
 refine f53_ok ?_
 unfold f53
 refine knew_of fun w2 hm2 hs2 hb2 => ?_
 have hb2 : blk w2 w.heap.size = some (.cells #[.int .i64 i, .int .i64 g] 37) := hb2
 have hP2 := h.cut hm2
 have hs2' := hs.same hm2
 have hLb2 : ∀ k f, a = some ⟨k, f, none⟩ → cutL o w.heap.size k = none := fun k f e => by
  unfold cutL; split
  ·exact hLb k f e
  ·rfl
 generalize ho0 : cutL o w.heap.size = o0 at *
 have ho0n : ∀ k, w.heap.size ≤ k → o0 k = none := fun k hk => by rw [← ho0]; exact cutL_none hk
 obtain ⟨ta, tc, et, hts⟩ := hP2.ptab hn
 have hb2b := hP2.here
 rw [et] at hb2b
 rw [ptrV]
 repeat (first | refine kN_at ?_ | refine kB_at ?_ | refine kfld_of ?_ | refine kext_at rfl ?_ | refine kld_at hb2b rfl ?_ | refine kldN_at hb2b rfl (by omega) ?_ | refine kG_of (by first | exact rfl | omega) ?_ | refine klen_at ?_ | refine eql_at ?_ | refine neq_at ?_ | refine lss_at ?_ | refine leq_at ?_ | refine gtr_at ?_ | refine geq_at ?_ | refine add_at (by omega) (by omega) ?_ | refine sub_at (by omega) (by omega) ?_ | refine not_at ?_ | refine kO_at ?_ | refine kprt_at rfl ?_ | refine kprtN_at rfl ?_ | refine kcap_at ?_ | refine klenStr_at ?_ | refine kN_iat ?_ | refine kN_fat ?_ | refine kIf_T (by first | exact rfl | exact decT (by omega) | exact notT (decF (by omega))) ?_ | refine kIf_F (by first | exact rfl | exact decF (by omega) | exact notF (decT (by omega))) ?_)
 rw [natV]
 have ele : (List.range S.tabs.length).length = S.tabs.length := List.length_range
 refine kixld_of (F := fun i => ptrV (p.pt i)) (c := tc) (l := List.range S.tabs.length) hts (show n < (List.range S.tabs.length).length by omega) rfl ?_ |> fun h => by rw [ele] at h; exact h
 rw [List.getElem_range]
 refine klen_at ?_
 refine kL1_of L.length (fun j x wr => x = .int .i64 j ∧ ∃ o', LabEq w2 o0 o' ∧ StoreP o' wr b p { S with tabs := S.tabs.set n (pushC S.tabs[n] (L.take j)) } ∧ Mod (FP o0 (tabTag n)) w2 wr) ⟨lI1_0 ⟨rfl, o0, LabEq.refl _ _, ?_, Mod.refl _ _⟩, fun x wr hx => ?_⟩
 ·rw [List.take_zero, pushC_nil, List.set_getElem_self]; exact hP2
 obtain ⟨j, hj, ⟨rfl, o', hl', hP', hm'⟩, hJ⟩ := lI1_step hx
 have hsL : SlIs wr a L.length 6 (L.flatMap Part.cells) := hs2'.mod hm' fun k f e ⟨t, e1, _⟩ => by rw [hLb2 k f e] at e1; cases e1
 have hn' : n < (S.tabs.set n (pushC S.tabs[n] (L.take j))).length := by simpa using hn
 unfold f53_0
 refine lss_at ?_
 refine kB_at ?_
 refine kIf_dec (fun hlt => ?_) (fun hge => ?_)
 ·have hlt : j < L.length := by omega
  obtain ⟨d, hd1, hd2⟩ := hin _ (List.getElem_mem hlt)
  obtain ⟨d', hf1, hf2, hf3⟩ := hf _ (List.getElem_mem hlt)
  obtain rfl : d' = d := by omega
  have hLj : L.take (j + 1) = L.take j ++ [L[j]] := by rw [List.take_add_one, List.getElem?_eq_getElem hlt]; rfl
  unfold f53_1
  refine kixldN_of (F := Part.cells) (sz := 6) (fun _ => rfl) (by omega) hsL hlt rfl ?_
  refine knew_of fun w13 h13 hs13 hb13 => ?_
  refine kst_of (vs := (L[j]).cells) hb13 rfl rfl rfl (by simp) (by simp [Part.cells]) fun w14 h14 hs14 hb14 => ?_
  have hb14 : blk w14 wr.heap.size = some (.cells (L[j]).cells.toArray 47) := hb14
  have m14 : Same wr w14 := h13.trans' (h14.mono fun k _ e => .inr (by omega))
  have m14 := m14.drew
  have hb14 : blk w14.drew wr.heap.size = _ := hb14
  have hsz14 : w14.drew.heap.size = wr.heap.size + 1 := by show w14.heap.size = _; omega
  generalize w14.drew = wa at *
  have hPa := hP'.frame m14 (fun _ _ _ h => h) (LabEq.cut wr o')
  have hT := hPa.tab n hn'
  rw [show ({ S with tabs := S.tabs.set n (pushC S.tabs[n] (L.take j)) } : SM).tabs[n] = pushC S.tabs[n] (L.take j) from tab_set hn _ hn'] at hT
  have hCol := hT.col hd2
  obtain ⟨q1, rv, bm, q2, q3, q4, q5, q6, q7⟩ := id hT
  rw [ptrV]
  repeat (first | refine kN_at ?_ | refine kB_at ?_ | refine kfld_of ?_ | refine kext_at rfl ?_ | refine kld_at q2 rfl ?_ | refine kldN_at q2 rfl (by omega) ?_ | refine kG_of (by first | exact rfl | omega) ?_ | refine klen_at ?_ | refine eql_at ?_ | refine neq_at ?_ | refine lss_at ?_ | refine leq_at ?_ | refine gtr_at ?_ | refine geq_at ?_ | refine add_at (by omega) (by omega) ?_ | refine sub_at (by omega) (by omega) ?_ | refine not_at ?_ | refine kO_at ?_ | refine kprt_at rfl ?_ | refine kprtN_at rfl ?_ | refine kcap_at ?_ | refine klenStr_at ?_ | refine kN_iat ?_ | refine kN_fat ?_ | refine kIf_T (by first | exact rfl | exact decT (by omega) | exact notT (decF (by omega))) ?_ | refine kIf_F (by first | exact rfl | exact decF (by omega) | exact notF (decT (by omega))) ?_)
  refine kld_of (v := .int .i64 d') hb14 (by simp [Part.cells, hd1]) ?_
  refine kG_of rfl ?_
  refine klook_of Tryz.underlying126 Tryz.underlying3 zCol q6 (r := some (_, _)) (by rw [lk_comps, if_pos hd2]) ?_
  refine kG_of rfl ?_
  repeat (first | refine kN_at ?_ | refine kB_at ?_ | refine kfld_of ?_ | refine kext_at rfl ?_ | refine kld_at hb14 rfl ?_ | refine kldN_at hb14 rfl (by omega) ?_ | refine kG_of (by first | exact rfl | omega) ?_ | refine klen_at ?_ | refine eql_at ?_ | refine neq_at ?_ | refine lss_at ?_ | refine leq_at ?_ | refine gtr_at ?_ | refine geq_at ?_ | refine add_at (by omega) (by omega) ?_ | refine sub_at (by omega) (by omega) ?_ | refine not_at ?_ | refine kO_at ?_ | refine kprt_at rfl ?_ | refine kprtN_at rfl ?_ | refine kcap_at ?_ | refine klenStr_at ?_ | refine kN_iat ?_ | refine kN_fat ?_ | refine kIf_T (by first | exact rfl | exact decT (by omega) | exact notT (decF (by omega))) ?_ | refine kIf_F (by first | exact rfl | exact decF (by omega) | exact notF (decT (by omega))) ?_)
  have hlenc : ((pushC S.tabs[n] (L.take j)).col d').length < 1000000 := by
   have h1 := hcol d' hd2
   have h2 := List.length_filter_le (fun q : Part => decide (q.comp = (d' : Int))) (L.take j)
   have h3 : (L.take j).length ≤ L.length := by rw [List.length_take]; omega
   show (S.tabs[n].col d' ++ (L.take j).filter _).length < 1000000
   rw [List.length_append]
   omega
  refine kcall_of (cPush_spec hCol (L[j]) ⟨hd1, hf3⟩ hlenc) ?_
  rintro v w23 ⟨rfl, o2, hl2, hC2, hm23⟩
  repeat (first | refine kN_at ?_ | refine kB_at ?_ | refine kfld_of ?_ | refine kext_at rfl ?_ | refine kG_of (by first | exact rfl | omega) ?_ | refine klen_at ?_ | refine eql_at ?_ | refine neq_at ?_ | refine lss_at ?_ | refine leq_at ?_ | refine gtr_at ?_ | refine geq_at ?_ | refine add_at (by omega) (by omega) ?_ | refine sub_at (by omega) (by omega) ?_ | refine not_at ?_ | refine kO_at ?_ | refine kprt_at rfl ?_ | refine kprtN_at rfl ?_ | refine kcap_at ?_ | refine klenStr_at ?_ | refine kN_iat ?_ | refine kN_fat ?_ | refine kIf_T (by first | exact rfl | exact decT (by omega) | exact notT (decF (by omega))) ?_ | refine kIf_F (by first | exact rfl | exact decF (by omega) | exact notF (decT (by omega))) ?_)
  rw [keq_nil_nil' ifErr]
  repeat (first | refine kN_at ?_ | refine kB_at ?_ | refine kfld_of ?_ | refine kext_at rfl ?_ | refine kG_of (by first | exact rfl | omega) ?_ | refine klen_at ?_ | refine eql_at ?_ | refine neq_at ?_ | refine lss_at ?_ | refine leq_at ?_ | refine gtr_at ?_ | refine geq_at ?_ | refine add_at (by omega) (by omega) ?_ | refine sub_at (by omega) (by omega) ?_ | refine not_at ?_ | refine kO_at ?_ | refine kprt_at rfl ?_ | refine kprtN_at rfl ?_ | refine kcap_at ?_ | refine klenStr_at ?_ | refine kN_iat ?_ | refine kN_fat ?_ | refine kIf_T (by first | exact rfl | exact decT (by omega) | exact notT (decF (by omega))) ?_ | refine kIf_F (by first | exact rfl | exact decF (by omega) | exact notF (decT (by omega))) ?_)
  rw [cast_succ]
  have hPn := hPa.pushed hn hd1 hd2 hl2 hm23 hC2
  rw [← hLj] at hPn
  refine hJ _ _ hlt ⟨rfl, o2, fun k hk => ?_, hPn, ?_⟩
  ·have h1 := hm'.size
   rw [hl2 k (by omega)]
   unfold cutL
   rw [if_pos (by omega)]
   exact hl' k hk
  ·refine hm'.trans' ((Mod.of_same m14).trans (hm23.mono fun k _ hk => ?_))
   obtain ⟨⟨t, e1, e2⟩, e3⟩ := hk.cut
   rcases Nat.lt_or_ge k w2.heap.size with hk2 | hk2
   ·left
    exact ⟨t, by rw [← hl' k hk2]; exact e1, .inr (.inr (.inr ⟨d', e2⟩))⟩
   ·exact .inr hk2
 ·have : j = L.length := by omega
  subst this
  rw [List.take_length] at hP' hn'
  clear hJ hx
  unfold f53_3
  have m3 := (Mod.refl (fun _ => False) wr).drew
  have hPa := hP'.frame m3 (fun _ _ _ h => h) (LabEq.cut wr o')
  have hbe : blk wr.drew w.heap.size = some (.cells #[.int .i64 i, .int .i64 g] 37) := hm'.get hb2 fun ⟨t, e1, _⟩ => by rw [ho0n _ (Nat.le_refl _)] at e1; cases e1
  have hszr : w2.heap.size ≤ wr.drew.heap.size := hm'.size
  have hm3 : Mod (FP o0 (tabTag n)) w2 wr.drew := hm'.drew
  have hlab3 : LabEq w2 o0 (cutL o' wr.heap.size) := fun k hk => by
   have := hm'.size
   unfold cutL
   rw [if_pos (by omega)]
   exact hl' k hk
  have hcut3 : ∀ k, wr.drew.heap.size ≤ k → cutL o' wr.heap.size k = none := fun k hk => cutL_none hk
  generalize hoc : cutL o' wr.heap.size = oc at *
  generalize wr.drew = wa at *
  have hba := hPa.here
  have hT := hPa.tab n hn'
  rw [show ({ S with tabs := S.tabs.set n (pushC S.tabs[n] L) } : SM).tabs[n] = pushC S.tabs[n] L from tab_set hn _ hn'] at hT
  obtain ⟨q1, rv, bm, q2, q3, q4, q5, q6, q7⟩ := id hT
  obtain ⟨ra, rn, rc, rfl, hrs, _⟩ := q3.is
  have hrn : rn = S.tabs[n].rows.length := by
   have := hrs.1
   rw [flat_len entC 2 (fun _ => rfl)] at this
   show rn = (pushC S.tabs[n] L).rows.length
   omega
  subst hrn
  obtain ⟨bs, csc, arr, t, es, hbs, s1, s2, s3⟩ := hPa.spots.viewF (F := spotC) (sz := 2) (fun _ => rfl) (by omega) (show 0 < S.spots.length by omega)
  have hspl := hPa.spotsl bs (by rw [es]; exact ⟨_, _, _, rfl⟩)
  have hsp0 := hPa.spots
  rw [es] at hba hsp0
  rw [ptrV]
  have nbt : bs ≠ p.pt n := fun e => by rw [e, q1] at hspl; cases hspl
  have nbb : b ≠ p.pt n := fun e => by
   have := hPa.lab
   rw [e, q1] at this; cases this
  have lbs := lt_of_blk hbs
  have lpt := lt_of_blk q2
  have he0 : oc w.heap.size = none := by rw [hlab3 _ (by omega)]; exact ho0n _ (Nat.le_refl _)
  have neb : bs ≠ w.heap.size := fun e => by rw [e, he0] at hspl; cases hspl
  have net : p.pt n ≠ w.heap.size := fun e => by rw [e, he0] at q1; cases q1
  repeat (first | refine kN_at ?_ | refine kB_at ?_ | refine kfld_of ?_ | refine kext_at rfl ?_ | refine kld_at hba rfl ?_ | refine kld_at hbe rfl ?_ | refine kld_at q2 rfl ?_ | refine kldN_at hba rfl (by omega) ?_ | refine kldN_at hbe rfl (by omega) ?_ | refine kldN_at q2 rfl (by omega) ?_ | refine kG_of (by first | exact rfl | omega) ?_ | refine klen_at ?_ | refine eql_at ?_ | refine neq_at ?_ | refine lss_at ?_ | refine leq_at ?_ | refine gtr_at ?_ | refine geq_at ?_ | refine add_at (by omega) (by omega) ?_ | refine sub_at (by omega) (by omega) ?_ | refine not_at ?_ | refine kO_at ?_ | refine kprt_at rfl ?_ | refine kprtN_at rfl ?_ | refine kcap_at ?_ | refine klenStr_at ?_ | refine kN_iat ?_ | refine kN_fat ?_ | refine kIf_T (by first | exact rfl | exact decT (by omega) | exact notT (decF (by omega))) ?_ | refine kIf_F (by first | exact rfl | exact decF (by omega) | exact notF (decT (by omega))) ?_)
  refine kbld_of (cs := [.int .i64 n, .int .i64 S.tabs[n].rows.length]) rfl ?_
  rw [kix_slice]
  refine kG_of (by simp; omega) ?_
  rw [add_mk, Nat.zero_add, Int.toNat_natCast]
  have hsl := (segL_spec _ _ _ _ (s3 i hi)).1
  rw [Array.length_toList] at hsl
  refine kst_of (vs := spotC (n, S.tabs[n].rows.length)) hbs rfl rfl rfl hsl (by simp [spotC]) fun w40 h40 hs40 hb40 => ?_
  have hb40 : blk w40.drew bs = _ := hb40
  have h40 : Mod (fun k => k = bs) wa w40.drew := h40.drew
  have hbe40 := h40.get hbe neb.symm
  have q240 := h40.get q2 nbt.symm
  have hrv40 : Own w40.drew (.slice ra S.tabs[n].rows.length rc) 2 (S.tabs[n].rows.flatMap entC) := q3.mod h40 fun k hk e => by
   subst e
   rw [q4 _ hk] at hspl; cases hspl
  have hs40' : w40.drew.heap.size = wa.heap.size := hs40
  generalize w40.drew = wb at *
  repeat (first | refine kN_at ?_ | refine kB_at ?_ | refine kfld_of ?_ | refine kext_at rfl ?_ | refine kld_at q240 rfl ?_ | refine kld_at hbe40 rfl ?_ | refine kldN_at q240 rfl (by omega) ?_ | refine kldN_at hbe40 rfl (by omega) ?_ | refine kG_of (by first | exact rfl | omega) ?_ | refine klen_at ?_ | refine eql_at ?_ | refine neq_at ?_ | refine lss_at ?_ | refine leq_at ?_ | refine gtr_at ?_ | refine geq_at ?_ | refine add_at (by omega) (by omega) ?_ | refine sub_at (by omega) (by omega) ?_ | refine not_at ?_ | refine kO_at ?_ | refine kprt_at rfl ?_ | refine kprtN_at rfl ?_ | refine kcap_at ?_ | refine klenStr_at ?_ | refine kN_iat ?_ | refine kN_fat ?_ | refine kIf_T (by first | exact rfl | exact decT (by omega) | exact notT (decF (by omega))) ?_ | refine kIf_F (by first | exact rfl | exact decF (by omega) | exact notF (decT (by omega))) ?_)
  refine kbldS_of (cs := [.int .i64 i, .int .i64 g]) rfl fun w45 h45 hs45 hb45 => ?_
  have q245 := h45.get q240 (fun h => h)
  refine kG_of (kld_at q245 rfl ⟨rfl, rfl⟩) ?_
  refine ksem_append apEnt (by omega) (hrv40.same h45) (Src.ofSlIs (hk := slEnt_is.choose_spec) 1 (SlIs.blk hb45 rfl) rfl) (by rw [flat_len entC 2 (fun _ => rfl)]; simp; omega) (by rw [flat_len entC 2 (fun _ => rfl)]; simp; omega) ?_
  intro v' w47 ho47 hm47 hf47
  have q247 := hm47.get q245 (fun e => by have := q4 _ e; rw [q1] at this; cases this)
  obtain ⟨a', n', c', rfl, _⟩ := ho47.is
  repeat (first | refine kN_at ?_ | refine kB_at ?_ | refine kfld_of ?_ | refine kext_at rfl ?_ | refine kG_of (by first | exact rfl | omega) ?_ | refine klen_at ?_ | refine eql_at ?_ | refine neq_at ?_ | refine lss_at ?_ | refine leq_at ?_ | refine gtr_at ?_ | refine geq_at ?_ | refine add_at (by omega) (by omega) ?_ | refine sub_at (by omega) (by omega) ?_ | refine not_at ?_ | refine kO_at ?_ | refine kprt_at rfl ?_ | refine kprtN_at rfl ?_ | refine kcap_at ?_ | refine klenStr_at ?_ | refine kN_iat ?_ | refine kN_fat ?_ | refine kIf_T (by first | exact rfl | exact decT (by omega) | exact notT (decF (by omega))) ?_ | refine kIf_F (by first | exact rfl | exact decF (by omega) | exact notF (decT (by omega))) ?_)
  refine kst1_of q247 rfl rfl (by simp) fun w49 h49 hs49 hb49 => ?_
  simp only [List.setIfInBounds_toArray, List.set_cons_succ, List.set_cons_zero] at hb49
  have hall : Mod (fun k => k = bs ∨ k = p.pt n ∨ vblk (.slice ra S.tabs[n].rows.length rc) k) wa w49 := (h40.mono fun k _ e => .inl e).trans ((Mod.of_same h45).trans ((hm47.mono fun k _ e => .inr (.inr e)).trans (h49.mono fun k _ e => .inr (.inl e))))
  have hFP : Mod (FP oc fun t => tabTag n t ∨ t = .spots) wa w49 := hall.mono fun k _ e => by
   rcases e with rfl | rfl | e
   ·exact ⟨_, hspl, .inr rfl⟩
   ·exact ⟨_, q1, .inl (.inl rfl)⟩
   ·exact ⟨_, q4 k e, .inl (.inr (.inl rfl))⟩
  have hlx : LabEq wa oc (ext oc wa.heap.size (.trows n)) := LabEq.ext _ _ _
  have hTn : TabAt (ext oc wa.heap.size (.trows n)) w49 (p.pt n) n (compsM S.masks n) (wdF S.cs) (p.pc n) ⟨S.tabs[n].rows ++ [((i : Int), g)], (pushC S.tabs[n] L).col⟩ := by
   refine ⟨by unfold ext; rw [if_pos lpt]; exact q1, _, bm, hb49, ?_, ?_, by unfold ext; rw [if_pos (lt_of_blk q6)]; exact q5, q6.mod hall ?_, fun d hd => (q7 d hd).frame hall (fun k t e et ek => ?_) hlx⟩
   ·show Own w49 _ 2 ((S.tabs[n].rows ++ [((i : Int), g)]).flatMap entC)
    rw [List.flatMap_append]
    exact ho47.mod h49 fun k hk e => by
     subst e
     rcases hf47 _ hk with h | h
     ·have := q4 _ h; rw [q1] at this; cases this
     ·omega
   ·intro k hk
    unfold ext
    rcases hf47 k hk with h | h
    ·have := q3.vblk_lt h
     rw [if_pos this]; exact q4 k h
    ·rw [if_neg (by have := h45.size; omega)]
   ·rintro (e | e | e)
    ·rw [e, hspl] at q5; cases q5
    ·rw [e, q1] at q5; cases q5
    ·have := q4 _ e; rw [q5] at this; cases this
   ·rcases ek with rfl | rfl | ek
    ·rw [hspl] at e; cases e; rcases et with h | h | h <;> cases h
    ·rw [q1] at e; cases e; rcases et with h | h | h <;> cases h
    ·rw [q4 k ek] at e; cases e; rcases et with h | h | h <;> cases h
  have hspn : Own w49 p.sv 2 ((S.spots.set i (n, S.tabs[n].rows.length)).flatMap spotC) := by
   rw [es]
   refine Own.setF (F := spotC) (fun _ => rfl) hsp0 hbs (x := (n, S.tabs[n].rows.length)) (i := i) ?_ hi
   exact h49.get (hm47.get (h45.get hb40 (fun h => h)) (fun e => by have := q4 _ e; rw [hspl] at this; cases this)) nbt
  have hPn := hPa.setTS hn' hlx hFP hspn (by simp) hTn
  have hSn : ({ ({ S with tabs := S.tabs.set n (pushC S.tabs[n] L) } : SM) with tabs := (S.tabs.set n (pushC S.tabs[n] L)).set n ⟨S.tabs[n].rows ++ [((i : Int), g)], (pushC S.tabs[n] L).col⟩, spots := S.spots.set i (n, S.tabs[n].rows.length) } : SM) = enterS S n i g L hn := by
   unfold enterS
   simp
  rw [hSn] at hPn
  refine ⟨rfl, ?_⟩
  subst ho0
  refine Turned.of (T := fun t => True) hm2 (fun k hk => ?_) hPn (hm3.mono (fun k _ hk => FP.mono (fun _ _ => trivial) hk) |>.trans' (hFP.mono fun k hk e => ?_)) (Mod.refl _ _)
  ·unfold ext
   rw [if_pos (by omega)]
   exact hlab3 k hk
  ·rcases Nat.lt_or_ge k w2.heap.size with hk2 | hk2
   ·left
    obtain ⟨t, e1, _⟩ := e
    exact ⟨t, by rw [← hlab3 k hk2]; exact e1, trivial⟩
   ·exact .inr hk2
end
section
attribute [local irreducible] kO kB kStr kInt kN kG kIf kfld kld kldN kst knew kmap kbld kbldS kext kcnv klenStr klen kcap kprt kprtN kbool kint kstr keq kun ksl kix kiv kta kmk kmm ksem ksemU kextf kcallV kcallM kcall kL
theorem tag_roll_atlas {t : Tag} (h1 : rollTag t) (h2 : atlasTag t) : False := by
 rcases h1 with rfl | rfl | rfl <;> rcases h2 with h | h | h | ⟨i, h⟩ <;> cases h
theorem tag_roll_tab {t : Tag} {i : Nat} (h1 : rollTag t) (h2 : tabTag i t) : False := by
 rcases h1 with rfl | rfl | rfl <;> rcases h2 with h | h | h | ⟨c, h | h | h⟩ <;> cases h
theorem tag_atlas_tab {t : Tag} {i : Nat} (h1 : atlasTag t) (h2 : tabTag i t) : False := by
 rcases h1 with rfl | rfl | rfl | ⟨j, rfl⟩ <;> rcases h2 with h | h | h | ⟨c, h | h | h⟩ <;> cases h
theorem not_FP {o : Lab} {T : Tag → Prop} {k : Nat} {t : Tag} (e : o k = some t) (h : ¬ T t) : ¬ FP o T k := fun ⟨t', e1, e2⟩ => by
 rw [e] at e1; cases e1; exact h e2
theorem StoreP.setRoll {o o' : Lab} {w w' : World} {b : Nat} {p : Ptrs} {S : SM} (h : StoreP o w b p S) {gens : List (Int × Bool)} {free : List Nat} (hl : LabEq w o o') (hm : Mod (FP o rollTag) w w') (hR : RollAt o' w' p.bR gens free) :
  StoreP o' w' b p { S with gens := gens, free := free } where
 lab := by rw [hl b (lt_of_blk h.here)]; exact h.lab
 good := h.good
 tle := h.tle
 mle := h.mle
 sle := h.sle
 here := hm.get h.here (not_FP h.lab (by rintro (h | h | h) <;> cases h))
 roll := hR
 atlas := h.atlas.frame hm (fun k t e et => not_FP e fun h => tag_roll_atlas h et) hl
 sch := h.sch.mod hm fun k f e => not_FP (h.schl k f e).1 (by rintro (h | h | h) <;> cases h)
 schl k f e := ⟨by rw [hl k (h.schl k f e).2]; exact (h.schl k f e).1, Nat.lt_of_lt_of_le (h.schl k f e).2 hm.size⟩
 tabs := h.tabs.mod hm fun k e => not_FP (h.tabsl k e) (by rintro (h | h | h) <;> cases h)
 tabsl k e := by rw [hl k (h.tabs.vblk_lt e)]; exact h.tabsl k e
 spots := h.spots.mod hm fun k e => not_FP (h.spotsl k e) (by rintro (h | h | h) <;> cases h)
 spotsl k e := by rw [hl k (h.spots.vblk_lt e)]; exact h.spotsl k e
 tab i hi := (h.tab i hi).frame hm (fun k t e et => not_FP e fun h => tag_roll_tab h et) hl
theorem compsM_addM {ms : List Nat} {m i : Nat} (hi : i < ms.length) : compsM (addM ms m) i = compsM ms i := by
 have e : (addM ms m)[i]? = ms[i]? := by
  unfold addM
  split
  ·rfl
  ·rw [List.getElem?_append_left hi]
 unfold compsM
 rw [e]
theorem StoreP.setAtlas {o o' : Lab} {w w' : World} {b : Nat} {p : Ptrs} {S : SM} (h : StoreP o w b p S) {m : Nat} (hlen : S.masks.length < 90000) (hl : LabEq w o o') (hm : Mod (FP o atlasTag) w w') (hA : AtlasAt o' w' p.bA S.cs.length (addM S.masks m)) :
  StoreP o' w' b p { S with masks := addM S.masks m } where
 lab := by rw [hl b (lt_of_blk h.here)]; exact h.lab
 good := h.good
 tle := by
  have := h.tle
  show S.tabs.length ≤ (addM S.masks m).length
  unfold addM; split
  ·exact this
  ·simp; omega
 mle := by
  show (addM S.masks m).length ≤ 90000
  unfold addM; split
  ·omega
  ·simp; omega
 sle := h.sle
 here := hm.get h.here (not_FP h.lab (by rintro (h | h | h | ⟨i, h⟩) <;> cases h))
 roll := h.roll.frame hm (fun k t e et => not_FP e fun h => tag_roll_atlas et h) hl
 atlas := hA
 sch := h.sch.mod hm fun k f e => not_FP (h.schl k f e).1 (by rintro (h | h | h | ⟨i, h⟩) <;> cases h)
 schl k f e := ⟨by rw [hl k (h.schl k f e).2]; exact (h.schl k f e).1, Nat.lt_of_lt_of_le (h.schl k f e).2 hm.size⟩
 tabs := h.tabs.mod hm fun k e => not_FP (h.tabsl k e) (by rintro (h | h | h | ⟨i, h⟩) <;> cases h)
 tabsl k e := by rw [hl k (h.tabs.vblk_lt e)]; exact h.tabsl k e
 spots := h.spots.mod hm fun k e => not_FP (h.spotsl k e) (by rintro (h | h | h | ⟨i, h⟩) <;> cases h)
 spotsl k e := by rw [hl k (h.spots.vblk_lt e)]; exact h.spotsl k e
 tab i hi := by
  have hi' : i < S.masks.length := Nat.lt_of_lt_of_le hi h.tle
  have := (h.tab i hi).frame hm (fun k t e et => not_FP e fun h => tag_atlas_tab h et) hl
  show TabAt o' w' (p.pt i) i (compsM (addM S.masks m) i) _ _ _
  rw [compsM_addM hi']
  exact this
theorem idx_addM_lt (ms : List Nat) (m : Nat) : (addM ms m).idxOf m < (addM ms m).length := List.idxOf_lt_length_of_mem (addM_mem ms m)
theorem idx_addM (ms : List Nat) (m : Nat) : (addM ms m)[(addM ms m).idxOf m]? = some m := by
 rw [List.getElem?_eq_getElem (idx_addM_lt ms m), List.getElem_idxOf (idx_addM_lt ms m)]
def laidS (S : SM) (m : Nat) : SM := layS { S with masks := addM S.masks m } ((addM S.masks m).length - S.tabs.length)
theorem laidS_len {S : SM} (h : S.tabs.length ≤ S.masks.length) (m : Nat) : (laidS S m).tabs.length = (addM S.masks m).length := by
 have : S.masks.length ≤ (addM S.masks m).length := by unfold addM; split <;> simp
 simp [laidS, layS]; omega
def rollS (S : SM) (gens : List (Int × Bool)) (free : List Nat) : SM := { S with gens := gens, free := free }
def spawnS (S : SM) (m i : Nat) (g : Int) (L : List Part) (h : S.tabs.length ≤ S.masks.length) (gens : List (Int × Bool)) (free : List Nat) : SM :=
 enterS (laidS (rollS S gens free) m) ((addM S.masks m).idxOf m) i g L (by
  have := laidS_len (S := rollS S gens free) h m
  rw [this]; exact idx_addM_lt _ _)
def Bnd (S : SM) : Prop := ∀ n T, S.tabs[n]? = some T → T.rows.length ≤ 999000 ∧ ∀ c ∈ compsM S.masks n, (T.col c).length ≤ 999000
theorem Bnd.laid {S : SM} (h : Bnd S) (ht : S.tabs.length ≤ S.masks.length) (m : Nat) : Bnd (laidS S m) := by
 intro n T hT
 have hT : (S.tabs ++ List.replicate ((addM S.masks m).length - S.tabs.length) TabM.empty)[n]? = some T := hT
 rcases Nat.lt_or_ge n S.tabs.length with hn | hn
 ·rw [List.getElem?_append_left hn] at hT
  obtain ⟨h1, h2⟩ := h n T hT
  refine ⟨h1, fun c hc => h2 c ?_⟩
  rw [← compsM_addM (m := m) (by omega)]; exact hc
 ·rw [List.getElem?_append_right hn] at hT
  obtain ⟨h1, h2⟩ := List.getElem?_eq_some_iff.1 hT
  rw [List.getElem_replicate] at h2
  subst h2
  exact ⟨by decide, fun c _ => by show ([] : List Part).length ≤ _; decide⟩
theorem sSpawn_spec {o : Lab} {w : World} (hD : DeAt w) {b : Nat} {p : Ptrs} {S : SM} (h : StoreP o w b p S) (hDo : o 9 = none) {K : Nat} (hK : K + 1 = S.free.length) {i : Nat} (hi : S.free[K]'(by omega) = i) (hlt : i < S.gens.length) (hg : 0 ≤ (S.gens[i]).1 ∧ (S.gens[i]).1 ≤ 1000000) (hisp : i < S.spots.length) (hml : S.masks.length < 80000) (hB : Bnd S)
  {L : List Part} {a : Option Addr} {c : Nat} (hs : SlIs w a L.length 6 (L.flatMap Part.cells)) (hLb : ∀ k f, a = some ⟨k, f, none⟩ → o k = none) (hn16 : L.length ≤ 64) (hf : ∀ q ∈ L, FitsP S.cs q) (hnt : NoTwice L) :
  Meets Tryz.prog 10 #[ptrV b, .slice a L.length c] w fun v w' => v = .tuple #[entV i ((S.gens[i]).1 + 1), .nilIface] ∧ ∃ L' : List Part, L'.Perm L ∧ L'.Pairwise (fun x y => x.comp ≤ y.comp) ∧
   Turned o w b (spawnS S (maskP L) i ((S.gens[i]).1 + 1) L' h.tle (S.gens.set i ((S.gens[i]).1 + 1, true)) (S.free.take K)) w' := by
 have hg16 := h.good.1
 have hmlt := maskP_lt S.cs hg16 L hf
 have hp16 : 2 ^ S.cs.length ≤ 2 ^ 16 := Nat.pow_le_pow_right (by omega) hg16
 refine f10_ok ?_
 unfold f10
 refine knew_of fun w2 hm2 hs2 hb2 => ?_
 have hP2 := h.cut hm2
 have hcutn : ∀ k, w.heap.size ≤ k → cutL o w.heap.size k = none := fun k hk => cutL_none hk
 have hDo0 : cutL o w.heap.size 9 = none := by
  unfold cutL; split
  ·exact hDo
  ·rfl
 rw [ptrV]
 rw [keq_ptr_nil ptSto]
 refine kB_at ?_
 refine kIf_F rfl ?_
 unfold f10_0
 refine kcall_of (sGathered_spec hP2 (hs.same hm2) (by omega) hf hnt) ?_
 rintro v w12 ⟨sv, L', rfl, hL1, hL2, hL3, h12, hf12⟩
 have m12 := hm2.trans h12
 have hP12 := hP2.same h12
 have hb12 := h12.get hb2 (fun h => h)
 repeat (first | refine kN_at ?_ | refine kB_at ?_ | refine kfld_of ?_ | refine kext_at rfl ?_ | refine kG_of (by first | exact rfl | omega) ?_ | refine klen_at ?_ | refine eql_at ?_ | refine neq_at ?_ | refine lss_at ?_ | refine leq_at ?_ | refine gtr_at ?_ | refine geq_at ?_ | refine add_at (by omega) (by omega) ?_ | refine sub_at (by omega) (by omega) ?_ | refine not_at ?_ | refine kO_at ?_ | refine kprt_at rfl ?_ | refine kprtN_at rfl ?_ | refine kcap_at ?_ | refine klenStr_at ?_ | refine kN_iat ?_ | refine kN_fat ?_ | refine kIf_T (by first | exact rfl | exact decT (by omega) | exact notT (decF (by omega))) ?_ | refine kIf_F (by first | exact rfl | exact decF (by omega) | exact notF (decT (by omega))) ?_)
 rw [keq_nil_nil' ifErr]
 refine kB_at ?_
 refine kIf_F rfl ?_
 unfold f10_1
 have hh12 := hP12.here
 rw [ptrV] at hh12
 repeat (first | refine kN_at ?_ | refine kB_at ?_ | refine kfld_of ?_ | refine kext_at rfl ?_ | refine kld_at hh12 rfl ?_ | refine kldN_at hh12 rfl (by omega) ?_ | refine kG_of (by first | exact rfl | omega) ?_ | refine klen_at ?_ | refine eql_at ?_ | refine neq_at ?_ | refine lss_at ?_ | refine leq_at ?_ | refine gtr_at ?_ | refine geq_at ?_ | refine add_at (by omega) (by omega) ?_ | refine sub_at (by omega) (by omega) ?_ | refine not_at ?_ | refine kO_at ?_ | refine kprt_at rfl ?_ | refine kprtN_at rfl ?_ | refine kcap_at ?_ | refine klenStr_at ?_ | refine kN_iat ?_ | refine kN_fat ?_ | refine kIf_T (by first | exact rfl | exact decT (by omega) | exact notT (decF (by omega))) ?_ | refine kIf_F (by first | exact rfl | exact decF (by omega) | exact notF (decT (by omega))) ?_)
 refine kcall_of (rTake_spec hP12.roll hK hi hlt hg) ?_
 rintro v w24 ⟨rfl, hR24, hm24⟩
 have hP24 := hP12.setRoll (LabEq.refl _ _) hm24 hR24
 have hb24 := hm24.get hb12 (fun e => by have := e.cut.2; omega)
 have hsz12 : w.heap.size + 1 ≤ w12.heap.size := by have := h12.size; omega
 repeat (first | refine kN_at ?_ | refine kB_at ?_ | refine kfld_of ?_ | refine kext_at rfl ?_ | refine kG_of (by first | exact rfl | omega) ?_ | refine klen_at ?_ | refine eql_at ?_ | refine neq_at ?_ | refine lss_at ?_ | refine leq_at ?_ | refine gtr_at ?_ | refine geq_at ?_ | refine add_at (by omega) (by omega) ?_ | refine sub_at (by omega) (by omega) ?_ | refine not_at ?_ | refine kO_at ?_ | refine kprt_at rfl ?_ | refine kprtN_at rfl ?_ | refine kcap_at ?_ | refine klenStr_at ?_ | refine kN_iat ?_ | refine kN_fat ?_ | refine kIf_T (by first | exact rfl | exact decT (by omega) | exact notT (decF (by omega))) ?_ | refine kIf_F (by first | exact rfl | exact decF (by omega) | exact notF (decT (by omega))) ?_)
 refine knew_of fun w28 h28 hs28 hb28 => ?_
 refine kst_of (vs := [.int .i64 i, .int .i64 ((S.gens[i]).1 + 1)]) hb28 rfl rfl rfl (by simp) (by simp) fun w29 h29 hs29 hb29 => ?_
 have hb29 : blk w29 w24.heap.size = some (.cells #[.int .i64 i, .int .i64 ((S.gens[i]).1 + 1)] 37) := hb29
 have m29 : Same w24 w29 := h28.trans' (h29.mono fun k _ e => .inr (by omega))
 rw [keq_nil_nil' ifErr]
 refine kB_at ?_
 refine kIf_F rfl ?_
 unfold f10_2
 have hP29 := hP24.same m29
 have hh29 := hP29.here
 rw [ptrV] at hh29
 have hc29 : cutL o w.heap.size w24.heap.size = none := hcutn _ (by have := hm24.size; omega)
 repeat (first | refine kN_at ?_ | refine kB_at ?_ | refine kfld_of ?_ | refine kext_at rfl ?_ | refine kld_at hh29 rfl ?_ | refine kldN_at hh29 rfl (by omega) ?_ | refine kG_of (by first | exact rfl | omega) ?_ | refine klen_at ?_ | refine eql_at ?_ | refine neq_at ?_ | refine lss_at ?_ | refine leq_at ?_ | refine gtr_at ?_ | refine geq_at ?_ | refine add_at (by omega) (by omega) ?_ | refine sub_at (by omega) (by omega) ?_ | refine not_at ?_ | refine kO_at ?_ | refine kprt_at rfl ?_ | refine kprtN_at rfl ?_ | refine kcap_at ?_ | refine klenStr_at ?_ | refine kN_iat ?_ | refine kN_fat ?_ | refine kIf_T (by first | exact rfl | exact decT (by omega) | exact notT (decF (by omega))) ?_ | refine kIf_F (by first | exact rfl | exact decF (by omega) | exact notF (decT (by omega))) ?_)
 refine kcall_of (at_spec hP29.atlas (maskP L) hmlt (by show S.masks.length < 100000; omega)) ?_
 rintro v w40 ⟨rfl, o3, hl3, hA3, hm40⟩
 have hP40 := hP29.setAtlas (m := maskP L) (by show S.masks.length < 90000; omega) hl3 hm40 hA3
 have hb40 := hm40.get (m29.get hb24 (fun h => h)) (fun e => by have := e.cut.2; omega)
 have he40 := hm40.get hb29 (fun e => by obtain ⟨t, e1, _⟩ := e; rw [hc29] at e1; cases e1)
 repeat (first | refine kN_at ?_ | refine kB_at ?_ | refine kfld_of ?_ | refine kext_at rfl ?_ | refine kG_of (by first | exact rfl | omega) ?_ | refine klen_at ?_ | refine eql_at ?_ | refine neq_at ?_ | refine lss_at ?_ | refine leq_at ?_ | refine gtr_at ?_ | refine geq_at ?_ | refine add_at (by omega) (by omega) ?_ | refine sub_at (by omega) (by omega) ?_ | refine not_at ?_ | refine kO_at ?_ | refine kprt_at rfl ?_ | refine kprtN_at rfl ?_ | refine kcap_at ?_ | refine klenStr_at ?_ | refine kN_iat ?_ | refine kN_fat ?_ | refine kIf_T (by first | exact rfl | exact decT (by omega) | exact notT (decF (by omega))) ?_ | refine kIf_F (by first | exact rfl | exact decF (by omega) | exact notF (decT (by omega))) ?_)
 rw [keq_nil_nil' ifErr]
 refine kB_at ?_
 refine kIf_F rfl ?_
 unfold f10_3
 have hsz24 := hm24.size
 have hsz29 := m29.size
 have hsz40 := hm40.size
 have hP40c := hP40.frame (Mod.refl (fun _ => False) _) (fun _ _ _ h => h) (LabEq.cut w40 o3)
 have hD40 : DeAt w40 := by
  have d12 := hD.same m12
  have d24 := d12.mod hm24 fun ⟨t, e1, _⟩ => by rw [hDo0] at e1; cases e1
  exact (d24.same m29).mod hm40 fun ⟨t, e1, _⟩ => by rw [hDo0] at e1; cases e1
 have hDlt := hD.lt
 have hDo3 : cutL o3 w40.heap.size 9 = none := by
  unfold cutL
  rw [if_pos (by have := hm2.size; omega), hl3 _ (by have := hm2.size; omega)]
  exact hDo0
 refine kcall_of (sLay_spec hD40 hP40c hDo3) ?_
 rintro v w51 ⟨rfl, o4, p4, hl4, hP51, hm51, hc51⟩
 repeat (first | refine kN_at ?_ | refine kB_at ?_ | refine kfld_of ?_ | refine kext_at rfl ?_ | refine kG_of (by first | exact rfl | omega) ?_ | refine klen_at ?_ | refine eql_at ?_ | refine neq_at ?_ | refine lss_at ?_ | refine leq_at ?_ | refine gtr_at ?_ | refine geq_at ?_ | refine add_at (by omega) (by omega) ?_ | refine sub_at (by omega) (by omega) ?_ | refine not_at ?_ | refine kO_at ?_ | refine kprt_at rfl ?_ | refine kprtN_at rfl ?_ | refine kcap_at ?_ | refine klenStr_at ?_ | refine kN_iat ?_ | refine kN_fat ?_ | refine kIf_T (by first | exact rfl | exact decT (by omega) | exact notT (decF (by omega))) ?_ | refine kIf_F (by first | exact rfl | exact decF (by omega) | exact notF (decT (by omega))) ?_)
 rw [keq_nil_nil' ifErr]
 repeat (first | refine kN_at ?_ | refine kB_at ?_ | refine kfld_of ?_ | refine kext_at rfl ?_ | refine kG_of (by first | exact rfl | omega) ?_ | refine klen_at ?_ | refine eql_at ?_ | refine neq_at ?_ | refine lss_at ?_ | refine leq_at ?_ | refine gtr_at ?_ | refine geq_at ?_ | refine add_at (by omega) (by omega) ?_ | refine sub_at (by omega) (by omega) ?_ | refine not_at ?_ | refine kO_at ?_ | refine kprt_at rfl ?_ | refine kprtN_at rfl ?_ | refine kcap_at ?_ | refine klenStr_at ?_ | refine kN_iat ?_ | refine kN_fat ?_ | refine kIf_T (by first | exact rfl | exact decT (by omega) | exact notT (decF (by omega))) ?_ | refine kIf_F (by first | exact rfl | exact decF (by omega) | exact notF (decT (by omega))) ?_)
 generalize hn : (addM S.masks (maskP L)).idxOf (maskP L) = n at *
 have hnl : n < (laidS (rollS S (S.gens.set i ((S.gens[i]).1 + 1, true)) (S.free.take K)) (maskP L)).tabs.length := by
  have e := laidS_len (S := rollS S (S.gens.set i ((S.gens[i]).1 + 1, true)) (S.free.take K)) h.tle (maskP L)
  rw [e, ← hn]; exact idx_addM_lt _ _
 have hP51 : StoreP o4 w51 b p4 (laidS (rollS S (S.gens.set i ((S.gens[i]).1 + 1, true)) (S.free.take K)) (maskP L)) := hP51
 have hsz51 := hm51.size
 have hsz2 := hm2.size
 have hunl : ∀ k, w.heap.size ≤ k → k < w29.heap.size → cutL o w.heap.size k = none ∧ cutL o3 w40.heap.size k = none ∧ o4 k = none := fun k h1 h2 => by
  have e1 := hcutn k h1
  have e2 : cutL o3 w40.heap.size k = none := by
   unfold cutL
   rw [if_pos (by omega), hl3 k h2]
   exact e1
  exact ⟨e1, e2, by rw [hl4 k (by omega)]; exact e2⟩
 have he51 := hm51.get he40 (fun ⟨t, e1, _⟩ => by rw [(hunl _ (by omega) (by omega)).2.1] at e1; cases e1)
 have hr51 := hm51.get hb40 (fun ⟨t, e1, _⟩ => by rw [(hunl _ (by omega) (by omega)).2.1] at e1; cases e1)
 have hsv51 : Own w51 sv 6 (L'.flatMap Part.cells) := by
  have hvl : ∀ k, vblk sv k → k < w12.heap.size := fun k hk => hL3.vblk_lt hk
  have g1 := hL3.mod hm24 fun k hk ⟨t, e1, _⟩ => by rw [hcutn k (by have := hf12 k hk; omega)] at e1; cases e1
  have g2 := (g1.same m29).mod hm40 fun k hk ⟨t, e1, _⟩ => by rw [hcutn k (by have := hf12 k hk; omega)] at e1; cases e1
  exact g2.mod hm51 fun k hk ⟨t, e1, _⟩ => by rw [(hunl k (by have := hf12 k hk; omega) (by have := hvl k hk; omega)).2.1] at e1; cases e1
 have hvl : ∀ k, vblk sv k → k < w12.heap.size := fun k hk => hL3.vblk_lt hk
 obtain ⟨sa, sn, sc, rfl, hsl, _⟩ := hsv51.is
 have hsn : sn = L'.length := by
  have := hsl.1
  rw [flat_len Part.cells 6 (fun _ => rfl)] at this
  omega
 subst hsn
 have hLl : L'.length = L.length := hL1.length_eq
 unfold f10_4
 repeat (first | refine kN_at ?_ | refine kB_at ?_ | refine kfld_of ?_ | refine kext_at rfl ?_ | refine kld_at he51 rfl ?_ | refine kldN_at he51 rfl (by omega) ?_ | refine kG_of (by first | exact rfl | omega) ?_ | refine klen_at ?_ | refine eql_at ?_ | refine neq_at ?_ | refine lss_at ?_ | refine leq_at ?_ | refine gtr_at ?_ | refine geq_at ?_ | refine add_at (by omega) (by omega) ?_ | refine sub_at (by omega) (by omega) ?_ | refine not_at ?_ | refine kO_at ?_ | refine kprt_at rfl ?_ | refine kprtN_at rfl ?_ | refine kcap_at ?_ | refine klenStr_at ?_ | refine kN_iat ?_ | refine kN_fat ?_ | refine kIf_T (by first | exact rfl | exact decT (by omega) | exact notT (decF (by omega))) ?_ | refine kIf_F (by first | exact rfl | exact decF (by omega) | exact notF (decT (by omega))) ?_)
 refine kcall_of (sEnter_spec (hP51.same (Mod.refl (fun _ => False) _).drew) hnl (show i < S.spots.length from hisp) ((S.gens[i]).1 + 1) (hsl.same (Mod.refl (fun _ => False) _).drew) (fun k f e => (hunl k (by have := hf12 k ⟨f, L'.length, sc, by rw [e]⟩; omega) (by have := hvl k ⟨f, L'.length, sc, by rw [e]⟩; omega)).2.2) (by omega) (fun q hq => hf q (hL1.mem_iff.1 hq)) ?_ ?_ ?_) ?_
 ·intro q hq
  have hq := hL1.mem_iff.1 hq
  obtain ⟨d, e1, e2, _⟩ := hf q hq
  refine ⟨d, e1, ?_⟩
  show d ∈ compsM (addM S.masks (maskP L)) n
  unfold compsM
  rw [← hn, idx_addM]
  exact listF_mem.2 ⟨by omega, (maskP_bit S.cs hg16 L hf d).2 ⟨q, hq, e1⟩⟩
 ·intro d hd
  have := ((Bnd.laid (S := rollS S (S.gens.set i ((S.gens[i]).1 + 1, true)) (S.free.take K)) hB h.tle (maskP L)) n _ (List.getElem?_eq_getElem hnl)).2 d hd
  omega
 ·have := ((Bnd.laid (S := rollS S (S.gens.set i ((S.gens[i]).1 + 1, true)) (S.free.take K)) hB h.tle (maskP L)) n _ (List.getElem?_eq_getElem hnl)).1
  omega
 rintro v w60 ⟨rfl, h60⟩
 obtain ⟨o5, p5, hl5, hP5, hm5, hc5⟩ := id h60
 have ms : Same w51 w51.drew := (Mod.refl (fun _ => False) _).drew
 have he60 := hm5.get (ms.get he51 (fun h => h)) (fun ⟨t, e1, _⟩ => by rw [(hunl _ (by omega) (by omega)).2.2] at e1; cases e1)
 have hr60 := hm5.get (ms.get hr51 (fun h => h)) (fun ⟨t, e1, _⟩ => by rw [(hunl _ (by omega) (by omega)).2.2] at e1; cases e1)
 refine kG_of (kldN_at he60 rfl (by omega) ⟨rfl, rfl⟩) ?_
 refine kst_of (vs := [.int .i64 i, .int .i64 ((S.gens[i]).1 + 1)]) hr60 rfl rfl rfl (by simp) (by simp) fun w61 h61 hs61 hb61 => ?_
 have hb61 : blk w61 w.heap.size = some (.cells #[.int .i64 i, .int .i64 ((S.gens[i]).1 + 1)] 37) := hb61
 repeat (first | refine kN_at ?_ | refine kB_at ?_ | refine kfld_of ?_ | refine kext_at rfl ?_ | refine kld_at hb61 rfl ?_ | refine kldN_at hb61 rfl (by omega) ?_ | refine kG_of (by first | exact rfl | omega) ?_ | refine klen_at ?_ | refine eql_at ?_ | refine neq_at ?_ | refine lss_at ?_ | refine leq_at ?_ | refine gtr_at ?_ | refine geq_at ?_ | refine add_at (by omega) (by omega) ?_ | refine sub_at (by omega) (by omega) ?_ | refine not_at ?_ | refine kO_at ?_ | refine kprt_at rfl ?_ | refine kprtN_at rfl ?_ | refine kcap_at ?_ | refine klenStr_at ?_ | refine kN_iat ?_ | refine kN_fat ?_ | refine kIf_T (by first | exact rfl | exact decT (by omega) | exact notT (decF (by omega))) ?_ | refine kIf_F (by first | exact rfl | exact decF (by omega) | exact notF (decT (by omega))) ?_)
 refine ⟨rfl, L', hL1, hL2, ?_⟩
 refine Turned.wrap hm2 ?_ (h61.mono fun k _ e => by subst e; omega)
 refine Turned.seq (o1 := cutL o w.heap.size) (w1 := w24) (LabEq.refl _ _) ((Mod.of_same h12).trans (hm24.mono fun k _ hk => FP.mono (fun _ _ => trivial) hk)) m29 ?_
 refine Turned.seq (o1 := cutL o3 w40.heap.size) (w1 := w40) (hl3.trans (LabEq.cut _ _) hm40.size) (hm40.mono fun k _ hk => FP.mono (fun _ _ => trivial) hk) (Mod.refl _ _) ?_
 refine Turned.seq (o1 := o4) (w1 := w51) hl4 (hm51.mono fun k _ hk => FP.mono (fun _ _ => trivial) hk) ms ?_
 have h60 : Turned o4 w51.drew b _ w60 := h60
 unfold spawnS
 simp only [hn]
 exact h60
end
section
attribute [local irreducible] kO kB kStr kInt kN kG kIf kfld kld kldN kst knew kmap kbld kbldS kext kcnv klenStr klen kcap kprt kprtN kbool kint kstr keq kun ksl kix kiv kta kmk kmm ksem ksemU kextf kcallV kcallM kcall kL
theorem apParts : appT Tryz.prog 40 6 48 = true := by kernel_rfl
def partAt (T : TabM) (r c : Nat) : Part := ((T.col c)[r]?).getD ⟨0, 0, 0, 0, 0, 0⟩
def takeC (T : TabM) (r : Nat) (l : List Nat) : TabM := ⟨T.rows, fun c => if c ∈ l then takeRow (T.col c) r else T.col c⟩
theorem takeC_nil (T : TabM) (r : Nat) : takeC T r [] = T := by simp [takeC]
def leaveS (S : SM) (n r m : Nat) (hn : n < S.tabs.length) : SM :=
 { S with tabs := S.tabs.set n ⟨takeRow S.tabs[n].rows r, fun c => takeRow (S.tabs[n].col c) r⟩, spots := S.spots.set m (n, r) }
def seenL (comps seen : List Nat) : List Nat := seen.map fun i => comps.getD i 0
theorem seenL_snoc (comps seen : List Nat) (i : Nat) (h : i < comps.length) : seenL comps (seen ++ [i]) = seenL comps seen ++ [comps[i]] := by
 simp [seenL, List.getElem?_eq_getElem h]
theorem seenL_notin {comps seen : List Nat} (hc : comps.Nodup) (hs : ∀ i ∈ seen, i < comps.length) {i : Nat} (hi : i < comps.length) (h : i ∉ seen) : comps[i] ∉ seenL comps seen := by
 intro hm
 obtain ⟨k, hk, e⟩ := List.mem_map.1 hm
 have hkl := hs k hk
 simp only [List.getD_eq_getElem?_getD, List.getElem?_eq_getElem hkl, Option.getD_some] at e
 exact h (by
  have : k = i := (List.getElem_inj hc).1 e
  subst this; exact hk)
theorem seenL_perm {comps seen : List Nat} (hn : seen.Nodup) (hs : ∀ i ∈ seen, i < comps.length) (ha : ∀ i, i < comps.length → i ∈ seen) : (seenL comps seen).Perm comps := by
 have hp : seen.Perm (List.range comps.length) := (List.perm_ext_iff_of_nodup hn List.nodup_range).2 fun a => ⟨fun h => by simpa using hs a h, fun h => ha a (by simpa using h)⟩
 have h2 := hp.map (fun i => comps.getD i 0)
 have e : (List.range comps.length).map (fun i => comps.getD i 0) = comps := by
  apply List.ext_getElem
  ·simp
  ·intro i h1 h2
   simp [List.getElem?_eq_getElem h2]
 rw [e] at h2
 exact h2
theorem listF_sorted (m : Nat) : (listF m).Pairwise (fun a b => a < b) := List.Pairwise.filter _ List.pairwise_lt_range
theorem compsM_sorted (ms : List Nat) (n : Nat) : (compsM ms n).Pairwise (fun a b => a < b) := by
 unfold compsM
 split
 ·exact listF_sorted _
 ·exact .nil
theorem compsM_nodup (ms : List Nat) (n : Nat) : (compsM ms n).Nodup := (compsM_sorted ms n).imp (fun h => by omega)
theorem sort_unique {comps : List Nat} (hc : comps.Pairwise (fun a b => a < b)) {f : Nat → Part} (hf : ∀ c ∈ comps, (f c).comp = (c : Int)) {L l : List Part} (hl : l.Perm (comps.map f)) (hL : L.Perm l) (hs : L.Pairwise (fun x y => x.comp ≤ y.comp)) : L = comps.map f := by
 refine List.Perm.eq_of_pairwise (le := fun x y : Part => x.comp ≤ y.comp) ?_ hs ?_ (hL.trans hl)
 ·intro a b ha hb h1 h2
  have ha := (hL.trans hl).mem_iff.1 ha
  obtain ⟨c, hcm, rfl⟩ := List.mem_map.1 ha
  obtain ⟨d, hdm, rfl⟩ := List.mem_map.1 hb
  have e1 := hf c hcm
  have e2 := hf d hdm
  have : c = d := by omega
  rw [this]
 ·rw [List.pairwise_map]
  refine hc.imp_of_mem fun ha hb h => ?_
  have e1 := hf _ ha
  have e2 := hf _ hb
  omega
def colsTag (n : Nat) (t : Tag) : Prop := ∃ c, colTag n c t
def LvInv (o : Lab) (w0 : World) (b : Nat) (p : Ptrs) (S : SM) (n r rI bm : Nat) (hn : n < S.tabs.length) (j : Nat) (x : Value) (w : World) : Prop :=
 ∃ seen : List Nat, seen.length = j ∧ seen.Nodup ∧ (∀ i ∈ seen, i < (compsM S.masks n).length) ∧
  blk w rI = some (.mapIter (some bm) ((compsM S.masks n).map fun (c : Nat) => ((c : Int), ptrV (p.pc n c))).length seen.toArray ((compsM S.masks n).map fun (c : Nat) => ((c : Int), ptrV (p.pc n c))).length) ∧
  Own w x 6 (((seenL (compsM S.masks n) seen).map (partAt S.tabs[n] r)).flatMap Part.cells) ∧ (∀ k, vblk x k → rI < k) ∧
  StoreP o w b p { S with tabs := S.tabs.set n (takeC S.tabs[n] r (seenL (compsM S.masks n) seen)) } ∧ Mod (fun k => FP o (colsTag n) k ∨ k = rI) w0 w
theorem sLeave_spec {o : Lab} {w : World} {b : Nat} {p : Ptrs} {S : SM} (h : StoreP o w b p S) {i : Nat} {g : Int} {n r m : Nat} {gm : Int} (hs : S.spots[i]? = some (n, r)) (hn : n < S.tabs.length) (hr : r < S.tabs[n].rows.length) (hcol : ∀ c ∈ compsM S.masks n, (S.tabs[n].col c).length = S.tabs[n].rows.length)
  (hlast : S.tabs[n].rows[S.tabs[n].rows.length - 1]'(by omega) = ((m : Int), gm)) (hm : m < S.spots.length) (hrl : S.tabs[n].rows.length ≤ 1000000) :
  Meets Tryz.prog 55 #[ptrV b, entV i g] w fun v w' => ∃ sv, v = .tuple #[sv, .nilIface] ∧ Own w' sv 6 (((compsM S.masks n).map (partAt S.tabs[n] r)).flatMap Part.cells) ∧ (∀ k, vblk sv k → w.heap.size ≤ k) ∧
   StoreP (cutL o w.heap.size) w' b p (leaveS S n r m hn) ∧ Mod (FP o fun _ => True) w w' := by
 have hi : i < S.spots.length := (List.getElem?_eq_some_iff.1 hs).1
 have hsi : S.spots[i] = (n, r) := (List.getElem?_eq_some_iff.1 hs).2
 refine f55_ok ?_
 unfold f55
 refine knew_of fun w2 hm2 hs2 hb2 => ?_
 have hb2 : blk w2 w.heap.size = some (.cells #[.int .i64 i, .int .i64 g] 37) := hb2
 have hP2 := h.cut hm2
 generalize ho0 : cutL o w.heap.size = o0 at *
 have ho0n : ∀ k, w.heap.size ≤ k → o0 k = none := fun k hk => by rw [← ho0]; exact cutL_none hk
 obtain ⟨bs, csc, arr, t, es, hbs, s1, s2, s3⟩ := hP2.spots.viewF (F := spotC) (sz := 2) (fun _ => rfl) (by omega) (show 0 < S.spots.length by omega)
 have hspl := hP2.spotsl bs (by rw [es]; exact ⟨_, _, _, rfl⟩)
 have hba := hP2.here
 rw [es] at hba
 have hsii := s3 i hi
 rw [hsi] at hsii
 rw [ptrV]
 have mst : Same w2 w2.drew := (Mod.refl (fun _ => False) _).drew
 have hbd : blk w2.drew bs = _ := hbs
 repeat (first | refine kN_at ?_ | refine kB_at ?_ | refine kfld_of ?_ | refine kext_at rfl ?_ | refine kld_at hba rfl ?_ | refine kld_at hb2 rfl ?_ | refine kldN_at hba rfl (by omega) ?_ | refine kldN_at hb2 rfl (by omega) ?_ | refine kG_of (by first | exact rfl | omega) ?_ | refine klen_at ?_ | refine eql_at ?_ | refine neq_at ?_ | refine lss_at ?_ | refine leq_at ?_ | refine gtr_at ?_ | refine geq_at ?_ | refine add_at (by omega) (by omega) ?_ | refine sub_at (by omega) (by omega) ?_ | refine not_at ?_ | refine kO_at ?_ | refine kprt_at rfl ?_ | refine kprtN_at rfl ?_ | refine kcap_at ?_ | refine klenStr_at ?_ | refine kN_iat ?_ | refine kN_fat ?_ | refine kIf_T (by first | exact rfl | exact decT (by omega) | exact notT (decF (by omega))) ?_ | refine kIf_F (by first | exact rfl | exact decF (by omega) | exact notF (decT (by omega))) ?_)
 rw [kix_slice]
 refine kG_of (by omega) ?_
 rw [add_mk, Nat.zero_add, Int.toNat_natCast]
 refine kldN_at hbs hsii (by omega) ?_
 refine kG_of rfl ?_
 refine knew_of fun w10 h10 hs10 hb10 => ?_
 have hbs10 := h10.get hbd (fun h => h)
 have hbe10 := h10.get (show blk w2.drew w.heap.size = _ from hb2) (fun h => h)
 have hba10 := h10.get (show blk w2.drew b = _ from hba) (fun h => h)
 refine kG_of (kldN_at hbs10 hsii (by omega) ⟨rfl, rfl⟩) ?_
 refine kG_of (kld_at hbe10 rfl ⟨rfl, rfl⟩) ?_
 refine kG_of (kld_at hba10 rfl ⟨rfl, rfl⟩) ?_
 have hs10 : w10.heap.size = w.heap.size + 2 := by rw [hs10]; show w2.heap.size + 1 = _; omega
 have hb10 : blk w10 w2.heap.size = some (.cells #[.int .i64 0, .int .i64 0] 120) := hb10
 refine kst_of (vs := [natV n, natV r]) hb10 rfl rfl rfl (by simp) (by simp) fun w11 h11 hs11 hb11 => ?_
 have hb11 : blk w11.drew w2.heap.size = some (.cells #[.int .i64 n, .int .i64 r] 120) := hb11
 have m11 : Same w2 w11.drew := (mst.trans h10).trans' (h11.drew.mono fun k _ e => .inr (by omega))
 have hs11 : w11.drew.heap.size = w.heap.size + 2 := by show w11.heap.size = _; omega
 generalize w11.drew = wa at *
 have hPa := hP2.same m11
 have hba11 := m11.get hba (fun h => h)
 have hT := hPa.tab n hn
 obtain ⟨q1, rv, bm, q2, q3, q4, q5, q6, q7⟩ := id hT
 obtain ⟨ta, tc, et, hts⟩ := hPa.ptab hn
 rw [et] at hba11
 repeat (first | refine kN_at ?_ | refine kB_at ?_ | refine kfld_of ?_ | refine kext_at rfl ?_ | refine kld_at hba11 rfl ?_ | refine kld_at hb11 rfl ?_ | refine kldN_at hba11 rfl (by omega) ?_ | refine kldN_at hb11 rfl (by omega) ?_ | refine kG_of (by first | exact rfl | omega) ?_ | refine klen_at ?_ | refine eql_at ?_ | refine neq_at ?_ | refine lss_at ?_ | refine leq_at ?_ | refine gtr_at ?_ | refine geq_at ?_ | refine add_at (by omega) (by omega) ?_ | refine sub_at (by omega) (by omega) ?_ | refine not_at ?_ | refine kO_at ?_ | refine kprt_at rfl ?_ | refine kprtN_at rfl ?_ | refine kcap_at ?_ | refine klenStr_at ?_ | refine kN_iat ?_ | refine kN_fat ?_ | refine kIf_T (by first | exact rfl | exact decT (by omega) | exact notT (decF (by omega))) ?_ | refine kIf_F (by first | exact rfl | exact decF (by omega) | exact notF (decT (by omega))) ?_)
 have ele : (List.range S.tabs.length).length = S.tabs.length := List.length_range
 refine kixld_of (F := fun i => ptrV (p.pt i)) (c := tc) (l := List.range S.tabs.length) hts (show n < (List.range S.tabs.length).length by omega) rfl ?_ |> fun h => by rw [ele] at h; exact h
 rw [List.getElem_range, ptrV]
 refine kG_of rfl ?_
 repeat (first | refine kN_at ?_ | refine kB_at ?_ | refine kfld_of ?_ | refine kext_at rfl ?_ | refine kld_at q2 rfl ?_ | refine kldN_at q2 rfl (by omega) ?_ | refine kG_of (by first | exact rfl | omega) ?_ | refine klen_at ?_ | refine eql_at ?_ | refine neq_at ?_ | refine lss_at ?_ | refine leq_at ?_ | refine gtr_at ?_ | refine geq_at ?_ | refine add_at (by omega) (by omega) ?_ | refine sub_at (by omega) (by omega) ?_ | refine not_at ?_ | refine kO_at ?_ | refine kprt_at rfl ?_ | refine kprtN_at rfl ?_ | refine kcap_at ?_ | refine klenStr_at ?_ | refine kN_iat ?_ | refine kN_fat ?_ | refine kIf_T (by first | exact rfl | exact decT (by omega) | exact notT (decF (by omega))) ?_ | refine kIf_F (by first | exact rfl | exact decF (by omega) | exact notF (decT (by omega))) ?_)
 refine krange_of Tryz.underlying126 q6 fun w21 h21 hs21 hb21 => ?_
 have hlr : p.pt n < wa.heap.size := lt_of_blk q2
 have hP21 := hPa.same h21
 have hcsl : ((compsM S.masks n).map fun (c : Nat) => ((c : Int), ptrV (p.pc n c))).length = (compsM S.masks n).length := by simp
 refine kL1_of (compsM S.masks n).length (LvInv o0 w21 b p S n r wa.heap.size bm hn) ⟨lI1_0 ?_, fun x wr hx => ?_⟩
 ·refine ⟨[], rfl, List.nodup_nil, fun i hi => by simp at hi, hb21, Own.nil _ _, (fun k hk => by obtain ⟨_, _, _, e⟩ := hk; cases e), ?_, Mod.refl _ _⟩
  show StoreP o0 w21 b p { S with tabs := S.tabs.set n (takeC S.tabs[n] r []) }
  rw [takeC_nil, List.set_getElem_self]; exact hP21
 obtain ⟨j, hj, ⟨seen, hsl, hnd, hsb, hit, hOx, hfx, hPr, hmr⟩, hJ⟩ := lI1_step hx
 have q1n : ¬ (FP o0 (colsTag n) (p.pt n) ∨ p.pt n = wa.heap.size) := by
  rintro (⟨t, e1, c, e2⟩ | e)
  ·rw [q1] at e1; cases e1
   rcases e2 with h | h | h <;> cases h
  ·omega
 have q6r : MapIs wr bm .i64 _ := (q6.mod h21 (fun h => h)).mod hmr (by
  rintro (⟨t, e1, c, e2⟩ | e)
  ·rw [q5] at e1; cases e1
   rcases e2 with h | h | h <;> cases h
  ·have := lt_of_blk q6; omega)
 unfold f55_0
 refine knext_of hit q6r (fun hall => ?_) (fun ix hix hnix w2' hm2' hs2' hit2 => ?_)
 ·have hperm := seenL_perm hnd hsb (fun i hi => hall i (by simpa using hi))
  have hn' : n < (S.tabs.set n (takeC S.tabs[n] r (seenL (compsM S.masks n) seen))).length := by simpa using hn
  have hTr := hPr.tab n hn'
  rw [show ({ S with tabs := S.tabs.set n (takeC S.tabs[n] r (seenL (compsM S.masks n) seen)) } : SM).tabs[n] = _ from tab_set hn _ hn'] at hTr
  obtain ⟨x1, rv', bm', x2, x3, x4, x5, x6, x7⟩ := id hTr
  have x3 : Own wr rv' 2 (S.tabs[n].rows.flatMap entC) := x3
  have x4' := x4
  have x3' := x3
  obtain ⟨br, cp, ar, tr, er, hbr, u1, u2, u3⟩ := x3.viewF (F := entC) (sz := 2) (fun _ => rfl) (by omega) (show 0 < S.tabs[n].rows.length by omega)
  subst er
  have hbrl := x4 br ⟨_, _, _, rfl⟩
  have hzr := hmr.size
  have hb2r : blk wr w2.heap.size = some (.cells #[.int .i64 n, .int .i64 r] 120) := by
   refine hmr.get (h21.get hb11 (fun h => h)) ?_
   rintro (⟨t, e1, _⟩ | e)
   ·rw [ho0n _ (by omega)] at e1; cases e1
   ·omega
  obtain ⟨L, hL⟩ : ∃ L, L + 1 = S.tabs[n].rows.length := ⟨S.tabs[n].rows.length - 1, by omega⟩
  have hLlt : L < S.tabs[n].rows.length := by omega
  have hlL : S.tabs[n].rows[L] = ((m : Int), gm) := by rw [← hlast]; congr 1; omega
  have u3L := u3 L hLlt
  rw [hlL] at u3L
  have nbt : br ≠ p.pt n := fun e => by rw [e, x1] at hbrl; cases hbrl
  have nbs : bs ≠ p.pt n := fun e => by rw [e, x1] at hspl; cases hspl
  have nbr : bs ≠ br := fun e => by rw [e, hbrl] at hspl; cases hspl
  have lbr := lt_of_blk hbr
  have lpt := lt_of_blk x2
  have bsr := hPr.spots.viewF (F := spotC) (sz := 2) (fun _ => rfl) (by omega) (show 0 < S.spots.length by omega)
  rw [es] at bsr
  obtain ⟨bs', csc', arr', t', es', hbs', s1', s2', s3'⟩ := bsr
  cases es'
  have lbs := lt_of_blk hbs'
  have hbar := hPr.here
  rw [es] at hbar
  have lb := lt_of_blk hbar
  have nb1 : b ≠ p.pt n := fun e => by have := hPr.lab; rw [e, x1] at this; cases this
  have nb2 : b ≠ br := fun e => by have := hPr.lab; rw [e, hbrl] at this; cases this
  have hu2 : o0 w2.heap.size = none := ho0n _ (by omega)
  have n2b : w2.heap.size ≠ br := fun e => by rw [e, hbrl] at hu2; cases hu2
  have n2t : w2.heap.size ≠ p.pt n := fun e => by rw [e, x1] at hu2; cases hu2
  repeat (first | refine kN_at ?_ | refine kB_at ?_ | refine kfld_of ?_ | refine kext_at rfl ?_ | refine kld_at x2 rfl ?_ | refine kldN_at x2 rfl (by omega) ?_ | refine kG_of (by first | exact rfl | omega) ?_ | refine klen_at ?_ | refine eql_at ?_ | refine neq_at ?_ | refine lss_at ?_ | refine leq_at ?_ | refine gtr_at ?_ | refine geq_at ?_ | refine add_at (by omega) (by omega) ?_ | refine sub_at (by omega) (by omega) ?_ | refine not_at ?_ | refine kO_at ?_ | refine kprt_at rfl ?_ | refine kprtN_at rfl ?_ | refine kcap_at ?_ | refine klenStr_at ?_ | refine kN_iat ?_ | refine kN_fat ?_ | refine kIf_T (by first | exact rfl | exact decT (by omega) | exact notT (decF (by omega))) ?_ | refine kIf_F (by first | exact rfl | exact decF (by omega) | exact notF (decT (by omega))) ?_)
  rw [show ((S.tabs[n].rows.length : Nat) : Int) - 1 = ((L : Nat) : Int) by omega]
  repeat (first | refine kN_at ?_ | refine kB_at ?_ | refine kfld_of ?_ | refine kext_at rfl ?_ | refine kld_at x2 rfl ?_ | refine kldN_at x2 rfl (by omega) ?_ | refine kG_of (by first | exact rfl | omega) ?_ | refine klen_at ?_ | refine eql_at ?_ | refine neq_at ?_ | refine lss_at ?_ | refine leq_at ?_ | refine gtr_at ?_ | refine geq_at ?_ | refine add_at (by omega) (by omega) ?_ | refine sub_at (by omega) (by omega) ?_ | refine not_at ?_ | refine kO_at ?_ | refine kprt_at rfl ?_ | refine kprtN_at rfl ?_ | refine kcap_at ?_ | refine klenStr_at ?_ | refine kN_iat ?_ | refine kN_fat ?_ | refine kIf_T (by first | exact rfl | exact decT (by omega) | exact notT (decF (by omega))) ?_ | refine kIf_F (by first | exact rfl | exact decF (by omega) | exact notF (decT (by omega))) ?_)
  rw [kix_slice]
  refine kG_of (by omega) ?_
  rw [add_mk, Nat.zero_add, Int.toNat_natCast]
  refine kldN_at hbr u3L (by omega) ?_
  refine knew_of fun w55 h55 hs55 hb55 => ?_
  refine kst_of (vs := [.int .i64 m, .int .i64 gm]) hb55 rfl rfl rfl (by simp) (by simp) fun w56 h56 hs56 hb56 => ?_
  have hb56 : blk w56.drew wr.heap.size = some (.cells #[.int .i64 m, .int .i64 gm] 37) := hb56
  have m56 : Same wr w56.drew := h55.trans' (h56.drew.mono fun k _ e => .inr (by omega))
  have hs56 : w56.drew.heap.size = wr.heap.size + 1 := by show w56.heap.size = _; omega
  generalize w56.drew = wc at *
  have x2c := m56.get x2 (fun h => h)
  have h2c := m56.get hb2r (fun h => h)
  have hbrc := m56.get hbr (fun h => h)
  repeat (first | refine kN_at ?_ | refine kB_at ?_ | refine kfld_of ?_ | refine kext_at rfl ?_ | refine kld_at x2c rfl ?_ | refine kld_at h2c rfl ?_ | refine kld_at hb56 rfl ?_ | refine kldN_at x2c rfl (by omega) ?_ | refine kldN_at h2c rfl (by omega) ?_ | refine kldN_at hb56 rfl (by omega) ?_ | refine kG_of (by first | exact rfl | omega) ?_ | refine klen_at ?_ | refine eql_at ?_ | refine neq_at ?_ | refine lss_at ?_ | refine leq_at ?_ | refine gtr_at ?_ | refine geq_at ?_ | refine add_at (by omega) (by omega) ?_ | refine sub_at (by omega) (by omega) ?_ | refine not_at ?_ | refine kO_at ?_ | refine kprt_at rfl ?_ | refine kprtN_at rfl ?_ | refine kcap_at ?_ | refine klenStr_at ?_ | refine kN_iat ?_ | refine kN_fat ?_ | refine kIf_T (by first | exact rfl | exact decT (by omega) | exact notT (decF (by omega))) ?_ | refine kIf_F (by first | exact rfl | exact decF (by omega) | exact notF (decT (by omega))) ?_)
  rw [kix_slice]
  refine kG_of (by omega) ?_
  rw [add_mk, Nat.zero_add, Int.toNat_natCast]
  have hsg := (segL_spec _ _ _ _ (u3 r hr)).1
  rw [Array.length_toList] at hsg
  refine kst_of (vs := entC ((m : Int), gm)) hbrc rfl rfl rfl hsg (by simp [entC]) fun w63 h63 hs63 hb63 => ?_
  have x263 := h63.get x2c nbt.symm
  have h263 := h63.get h2c n2b
  have he63 := h63.get hb56 (by omega)
  repeat (first | refine kN_at ?_ | refine kB_at ?_ | refine kfld_of ?_ | refine kext_at rfl ?_ | refine kld_at x263 rfl ?_ | refine kldN_at x263 rfl (by omega) ?_ | refine kG_of (by first | exact rfl | omega) ?_ | refine klen_at ?_ | refine eql_at ?_ | refine neq_at ?_ | refine lss_at ?_ | refine leq_at ?_ | refine gtr_at ?_ | refine geq_at ?_ | refine add_at (by omega) (by omega) ?_ | refine sub_at (by omega) (by omega) ?_ | refine not_at ?_ | refine kO_at ?_ | refine kprt_at rfl ?_ | refine kprtN_at rfl ?_ | refine kcap_at ?_ | refine klenStr_at ?_ | refine kN_iat ?_ | refine kN_fat ?_ | refine kIf_T (by first | exact rfl | exact decT (by omega) | exact notT (decF (by omega))) ?_ | refine kIf_F (by first | exact rfl | exact decF (by omega) | exact notF (decT (by omega))) ?_)
  refine ksl_sl_hi (by omega) ?_
  repeat (first | refine kN_at ?_ | refine kB_at ?_ | refine kfld_of ?_ | refine kext_at rfl ?_ | refine kG_of (by first | exact rfl | omega) ?_ | refine klen_at ?_ | refine eql_at ?_ | refine neq_at ?_ | refine lss_at ?_ | refine leq_at ?_ | refine gtr_at ?_ | refine geq_at ?_ | refine add_at (by omega) (by omega) ?_ | refine sub_at (by omega) (by omega) ?_ | refine not_at ?_ | refine kO_at ?_ | refine kprt_at rfl ?_ | refine kprtN_at rfl ?_ | refine kcap_at ?_ | refine klenStr_at ?_ | refine kN_iat ?_ | refine kN_fat ?_ | refine kIf_T (by first | exact rfl | exact decT (by omega) | exact notT (decF (by omega))) ?_ | refine kIf_F (by first | exact rfl | exact decF (by omega) | exact notF (decT (by omega))) ?_)
  refine kst1_of x263 rfl rfl (by simp) fun w68 h68 hs68 hb68 => ?_
  simp only [List.setIfInBounds_toArray, List.set_cons_succ, List.set_cons_zero] at hb68
  have h268 : blk w68.drew w2.heap.size = _ := h68.get h263 n2t
  have he68 : blk w68.drew wr.heap.size = _ := h68.get he63 (by omega)
  have hba68 : blk w68.drew b = _ := h68.get (h63.get (m56.get hbar (fun h => h)) nb2) nb1
  have hbs68 : blk w68.drew bs = _ := h68.get (h63.get (m56.get hbs' (fun h => h)) nbr) nbs
  have hbr68 : blk w68.drew br = _ := h68.get hb63 nbt
  have hb68 : blk w68.drew (p.pt n) = _ := hb68
  have hs68 : w68.drew.heap.size = wc.heap.size := by show w68.heap.size = _; omega
  have m68 : Mod (fun k => k = br ∨ k = p.pt n ∨ k = bs) wr w68.drew := (Mod.of_same m56).trans ((h63.mono fun k _ e => .inl e).trans (h68.drew.mono fun k _ e => .inr (.inl e)))
  generalize w68.drew = wd at *
  repeat (first | refine kN_at ?_ | refine kB_at ?_ | refine kfld_of ?_ | refine kext_at rfl ?_ | refine kld_at hba68 rfl ?_ | refine kld_at he68 rfl ?_ | refine kld_at h268 rfl ?_ | refine kldN_at hba68 rfl (by omega) ?_ | refine kldN_at he68 rfl (by omega) ?_ | refine kldN_at h268 rfl (by omega) ?_ | refine kG_of (by first | exact rfl | omega) ?_ | refine klen_at ?_ | refine eql_at ?_ | refine neq_at ?_ | refine lss_at ?_ | refine leq_at ?_ | refine gtr_at ?_ | refine geq_at ?_ | refine add_at (by omega) (by omega) ?_ | refine sub_at (by omega) (by omega) ?_ | refine not_at ?_ | refine kO_at ?_ | refine kprt_at rfl ?_ | refine kprtN_at rfl ?_ | refine kcap_at ?_ | refine klenStr_at ?_ | refine kN_iat ?_ | refine kN_fat ?_ | refine kIf_T (by first | exact rfl | exact decT (by omega) | exact notT (decF (by omega))) ?_ | refine kIf_F (by first | exact rfl | exact decF (by omega) | exact notF (decT (by omega))) ?_)
  rw [kix_slice]
  refine kG_of (by omega) ?_
  rw [add_mk, Nat.zero_add, Int.toNat_natCast]
  have hsg2 := (segL_spec _ _ _ _ (s3' m hm)).1
  rw [Array.length_toList] at hsg2
  refine kst_of (vs := spotC (n, r)) hbs68 rfl rfl rfl hsg2 (by simp [spotC]) fun w75 h75 hs75 hb75 => ?_
  have m75 : Mod (fun k => k = br ∨ k = p.pt n ∨ k = bs) wr w75 := m68.trans (h75.mono fun k _ e => .inr (.inr e))
  have hb75t := h75.get hb68 nbs.symm
  have hbr75 := h75.get hbr68 nbr.symm
  have hFP : Mod (FP o0 fun t => tabTag n t ∨ t = .spots) wr w75 := m75.mono fun k _ e => by
   rcases e with rfl | rfl | rfl
   ·exact ⟨_, hbrl, .inl (.inr (.inl rfl))⟩
   ·exact ⟨_, x1, .inl (.inl rfl)⟩
   ·exact ⟨_, hspl, .inr rfl⟩
  have hTn : TabAt o0 w75 (p.pt n) n (compsM S.masks n) (wdF S.cs) (p.pc n) ⟨takeRow S.tabs[n].rows r, fun c => takeRow (S.tabs[n].col c) r⟩ := by
   refine ⟨x1, _, bm', hb75t, ?_, ?_, x5, x6.mod m75 ?_, fun d hd => ?_⟩
   ·have g1 := Own.setF (F := entC) (fun _ => rfl) x3' hbr (x := ((m : Int), gm)) (i := r) hbr75 hr
    have g2 := g1.cutN (k := L) (by omega)
    rw [← flat_take (F := entC) (fun _ => rfl)] at g2
    have e1 := takeRow_eq (rows := S.tabs[n].rows) (by omega) r
    rw [hlast, show S.tabs[n].rows.length - 1 = L by omega] at e1
    show Own w75 _ 2 ((takeRow S.tabs[n].rows r).flatMap entC)
    rw [e1]
    exact g2
   ·rintro k ⟨_, _, _, e⟩; cases e; exact hbrl
   ·rintro (e | e | e)
    ·rw [e, hbrl] at x5; cases x5
    ·rw [e, x1] at x5; cases x5
    ·rw [e, hspl] at x5; cases x5
   ·have := (x7 d hd).frame m75 (fun k t e et ek => by
     rcases ek with rfl | rfl | rfl
     ·rw [hbrl] at e; cases e; rcases et with h | h | h <;> cases h
     ·rw [x1] at e; cases e; rcases et with h | h | h <;> cases h
     ·rw [hspl] at e; cases e; rcases et with h | h | h <;> cases h) (LabEq.refl _ _)
    have e : (takeC S.tabs[n] r (seenL (compsM S.masks n) seen)).col d = takeRow (S.tabs[n].col d) r := by
     show (if d ∈ _ then _ else _) = _
     rw [if_pos (hperm.mem_iff.2 hd)]
    rw [e] at this
    exact this
  have hspn : Own w75 p.sv 2 ((S.spots.set m (n, r)).flatMap spotC) := by
   have hsp0 := hPr.spots
   rw [es] at hsp0 ⊢
   exact Own.setF (F := spotC) (fun _ => rfl) hsp0 hbs' (x := (n, r)) (i := m) hb75 hm
  have hPn := hPr.setTS hn' (LabEq.refl _ _) hFP hspn (by simp) hTn
  have hSn : ({ ({ S with tabs := S.tabs.set n (takeC S.tabs[n] r (seenL (compsM S.masks n) seen)) } : SM) with tabs := (S.tabs.set n (takeC S.tabs[n] r (seenL (compsM S.masks n) seen))).set n ⟨takeRow S.tabs[n].rows r, fun c => takeRow (S.tabs[n].col c) r⟩, spots := S.spots.set m (n, r) } : SM) = leaveS S n r m hn := by
   unfold leaveS
   simp
  rw [hSn] at hPn
  have hx75 : ∀ k, vblk x k → ¬ (k = br ∨ k = p.pt n ∨ k = bs) := fun k hk e => by
   have e0 := ho0n k (by have := hfx k hk; omega)
   rcases e with rfl | rfl | rfl
   ·rw [hbrl] at e0; cases e0
   ·rw [x1] at e0; cases e0
   ·rw [hspl] at e0; cases e0
  have hc64 : (compsM S.masks n).length ≤ 32 := by
   unfold compsM; split
   ·exact listF_len _
   ·exact Nat.zero_le _
  refine kcall_of (sorted_spec (hOx.mod m75 hx75) (by simp [hperm.length_eq]; omega)) ?_
  rintro v w77 ⟨L', g1, g2, g3, g4⟩
  have hL' := sort_unique (compsM_sorted S.masks n) (f := partAt S.tabs[n] r) (fun c hc => by
   have hrc : r < (S.tabs[n].col c).length := by rw [hcol c hc]; exact hr
   obtain ⟨_, _, _, _, _, h6, _⟩ := hT.col hc
   have := (h6 _ (List.getElem_mem hrc)).1
   simp only [partAt, List.getElem?_eq_getElem hrc, Option.getD_some]
   exact this) (hperm.map _) g1 g2
  rw [hL'] at g3
  refine ⟨x, rfl, g3, fun k hk => by have := hfx k hk; omega, hPn.frame g4 (fun k t e ek => by rw [ho0n k (by have := hfx k ek; omega)] at e; cases e) (LabEq.refl _ _), ?_⟩
  have hcut : ∀ {T : Tag → Prop} {k : Nat}, FP o0 T k → FP o (fun _ => True) k := fun hk => by
   subst ho0
   exact FP.mono (fun _ _ => trivial) hk.cut.1
  have y0 : Same w w21 := (hm2.trans m11).trans h21
  have y1 : Mod (fun i => FP o (fun _ => True) i ∨ w.heap.size ≤ i) w21 wr := hmr.mono fun k _ e => by
   rcases e with e | e
   ·exact .inl (hcut e)
   ·exact .inr (by omega)
  have y2 : Mod (fun i => FP o (fun _ => True) i ∨ w.heap.size ≤ i) wr w75 := hFP.mono fun k _ e => .inl (hcut e)
  have y3 : Mod (fun i => FP o (fun _ => True) i ∨ w.heap.size ≤ i) w75 w77 := g4.mono fun k _ e => .inr (by have := hfx k e; omega)
  exact (Mod.of_same y0).trans' (y1.trans (y2.trans y3))
 ·have hixc : ix < (compsM S.masks n).length := by simpa using hix
  have hpn := seenL_notin (compsM_nodup S.masks n) hsb hixc hnix
  have hgi : ((compsM S.masks n).map fun (c : Nat) => ((c : Int), ptrV (p.pc n c)))[ix] = (((compsM S.masks n)[ix] : Int), ptrV (p.pc n (compsM S.masks n)[ix])) := by simp
  have hjl : j < (compsM S.masks n).length := by
   have hnd2 : (seen ++ [ix]).Nodup := List.nodup_append.2 ⟨hnd, by simp, fun a ha b hb e => by simp at hb; subst hb; subst e; exact hnix ha⟩
   have := List.Nodup.length_le_of_subset hnd2 (l₂ := List.range (compsM S.masks n).length) (fun a ha => by
    rcases List.mem_append.1 ha with h | h
    ·simpa using hsb a h
    ·simp at h; subst h; simpa using hixc)
   simp at this; omega
  repeat (first | refine kN_at ?_ | refine kB_at ?_ | refine kfld_of ?_ | refine kext_at rfl ?_ | refine kG_of (by first | exact rfl | omega) ?_ | refine klen_at ?_ | refine eql_at ?_ | refine neq_at ?_ | refine lss_at ?_ | refine leq_at ?_ | refine gtr_at ?_ | refine geq_at ?_ | refine add_at (by omega) (by omega) ?_ | refine sub_at (by omega) (by omega) ?_ | refine not_at ?_ | refine kO_at ?_ | refine kprt_at rfl ?_ | refine kprtN_at rfl ?_ | refine kcap_at ?_ | refine klenStr_at ?_ | refine kN_iat ?_ | refine kN_fat ?_ | refine kIf_T (by first | exact rfl | exact decT (by omega) | exact notT (decF (by omega))) ?_ | refine kIf_F (by first | exact rfl | exact decF (by omega) | exact notF (decT (by omega))) ?_)
  unfold f55_1
  refine kentry_of hix hit2 (q6r.mod hm2' (fun e => by have := lt_of_blk q6; omega)) ?_
  rw [hgi]
  generalize hc : (compsM S.masks n)[ix] = c at *
  have hcm : c ∈ compsM S.masks n := hc ▸ List.getElem_mem hixc
  have hPr2 : StoreP o0 w2' b p _ := hPr.frame hm2' (fun k t e ek => by subst ek; rw [ho0n _ (by omega)] at e; cases e) (LabEq.refl _ _)
  have hn' : n < (S.tabs.set n (takeC S.tabs[n] r (seenL (compsM S.masks n) seen))).length := by simpa using hn
  have hTr := hPr2.tab n hn'
  rw [show ({ S with tabs := S.tabs.set n (takeC S.tabs[n] r (seenL (compsM S.masks n) seen)) } : SM).tabs[n] = _ from tab_set hn _ hn'] at hTr
  have hCol := hTr.col hcm
  have hTc : (takeC S.tabs[n] r (seenL (compsM S.masks n) seen)).col c = S.tabs[n].col c := by
   show (if c ∈ _ then _ else _) = _
   rw [if_neg hpn]
  rw [hTc] at hCol
  have hb2r : blk w2' w2.heap.size = some (.cells #[.int .i64 n, .int .i64 r] 120) := by
   refine hm2'.get (hmr.get (h21.get hb11 (fun h => h)) ?_) (by omega)
   rintro (⟨t, e1, _⟩ | e)
   ·rw [ho0n _ (by omega)] at e1; cases e1
   ·omega
  repeat (first | refine kN_at ?_ | refine kB_at ?_ | refine kfld_of ?_ | refine kext_at rfl ?_ | refine kld_at hb2r rfl ?_ | refine kldN_at hb2r rfl (by omega) ?_ | refine kG_of (by first | exact rfl | omega) ?_ | refine klen_at ?_ | refine eql_at ?_ | refine neq_at ?_ | refine lss_at ?_ | refine leq_at ?_ | refine gtr_at ?_ | refine geq_at ?_ | refine add_at (by omega) (by omega) ?_ | refine sub_at (by omega) (by omega) ?_ | refine not_at ?_ | refine kO_at ?_ | refine kprt_at rfl ?_ | refine kprtN_at rfl ?_ | refine kcap_at ?_ | refine klenStr_at ?_ | refine kN_iat ?_ | refine kN_fat ?_ | refine kIf_T (by first | exact rfl | exact decT (by omega) | exact notT (decF (by omega))) ?_ | refine kIf_F (by first | exact rfl | exact decF (by omega) | exact notF (decT (by omega))) ?_)
  have hrc : r < (S.tabs[n].col c).length := by rw [hcol c hcm]; exact hr
  refine kcall_of (cTake_spec hCol hrc) ?_
  rintro v w31 ⟨rfl, hC31, hm31⟩
  repeat (first | refine kN_at ?_ | refine kB_at ?_ | refine kfld_of ?_ | refine kext_at rfl ?_ | refine kG_of (by first | exact rfl | omega) ?_ | refine klen_at ?_ | refine eql_at ?_ | refine neq_at ?_ | refine lss_at ?_ | refine leq_at ?_ | refine gtr_at ?_ | refine geq_at ?_ | refine add_at (by omega) (by omega) ?_ | refine sub_at (by omega) (by omega) ?_ | refine not_at ?_ | refine kO_at ?_ | refine kprt_at rfl ?_ | refine kprtN_at rfl ?_ | refine kcap_at ?_ | refine klenStr_at ?_ | refine kN_iat ?_ | refine kN_fat ?_ | refine kIf_T (by first | exact rfl | exact decT (by omega) | exact notT (decF (by omega))) ?_ | refine kIf_F (by first | exact rfl | exact decF (by omega) | exact notF (decT (by omega))) ?_)
  refine knew_of fun w35 h35 hs35 hb35 => ?_
  refine kst_of (vs := ((S.tabs[n].col c)[r]).cells) hb35 rfl rfl rfl (by simp) (by simp [Part.cells]) fun w36 h36 hs36 hb36 => ?_
  have hb36 : blk w36 w31.heap.size = some (.cells ((S.tabs[n].col c)[r]).cells.toArray 47) := hb36
  rw [keq_nil_nil' ifErr]
  refine kB_at ?_
  refine kIf_F rfl ?_
  unfold f55_2
  repeat (first | refine kN_at ?_ | refine kB_at ?_ | refine kfld_of ?_ | refine kext_at rfl ?_ | refine kld_at hb36 rfl ?_ | refine kldN_at hb36 rfl (by omega) ?_ | refine kG_of (by first | exact rfl | omega) ?_ | refine klen_at ?_ | refine eql_at ?_ | refine neq_at ?_ | refine lss_at ?_ | refine leq_at ?_ | refine gtr_at ?_ | refine geq_at ?_ | refine add_at (by omega) (by omega) ?_ | refine sub_at (by omega) (by omega) ?_ | refine not_at ?_ | refine kO_at ?_ | refine kprt_at rfl ?_ | refine kprtN_at rfl ?_ | refine kcap_at ?_ | refine klenStr_at ?_ | refine kN_iat ?_ | refine kN_fat ?_ | refine kIf_T (by first | exact rfl | exact decT (by omega) | exact notT (decF (by omega))) ?_ | refine kIf_F (by first | exact rfl | exact decF (by omega) | exact notF (decT (by omega))) ?_)
  refine kbldS_of (cs := ((S.tabs[n].col c)[r]).cells) rfl fun w41 h41 hs41 hb41 => ?_
  have hz2 := hm2'.size
  have hz31 := hm31.size
  have hzr := hmr.size
  have m41 : Same w31 w41 := (h35.trans' (h36.mono fun k _ e => .inr (by omega))).trans h41
  have hO41 : Own w41 x 6 _ := ((hOx.mod hm2' (fun k hk e => by have := hfx k hk; omega)).mod hm31 (fun k hk ⟨t, e1, _⟩ => by rw [ho0n k (by have := hfx k hk; omega)] at e1; cases e1)).same m41
  have hpl : (seenL (compsM S.masks n) seen).length = j := by simp [seenL, hsl]
  have hc64 : (compsM S.masks n).length ≤ 32 := by
   unfold compsM; split
   ·exact listF_len _
   ·exact Nat.zero_le _
  refine ksem_append apParts (by omega) hO41 (Src.ofSlIs (hk := slPart_is.choose_spec) 1 (SlIs.blk hb41 rfl) (ones_parts [(S.tabs[n].col c)[r]])) (by rw [flat_len Part.cells 6 (fun _ => rfl)]; simp [hpl, Part.cells]; omega) (by rw [flat_len Part.cells 6 (fun _ => rfl)]; simp [hpl, Part.cells]; omega) ?_
  intro v' w43 ho43 hm43 hf43
  have hit31 := (hm31.get hit2 (fun ⟨t, e1, _⟩ => by rw [ho0n _ (by omega)] at e1; cases e1))
  have hit43 := hm43.get (m41.get hit31 (fun h => h)) (fun e => by have := hfx _ e; omega)
  refine hJ _ _ hjl ⟨seen ++ [ix], by simp [hsl], ?_, ?_, hit43, ?_, ?_, ?_, ?_⟩
  ·exact List.nodup_append.2 ⟨hnd, by simp, fun a ha b hb e => by simp at hb; subst hb; subst e; exact hnix ha⟩
  ·intro a ha
   rcases List.mem_append.1 ha with h | h
   ·exact hsb a h
   ·simp at h; subst h; exact hixc
  ·rw [seenL_snoc _ _ _ hixc, hc, List.map_append, List.flatMap_append]
   have e : ([c].map (partAt S.tabs[n] r)).flatMap Part.cells = ((S.tabs[n].col c)[r]).cells := by
    simp [partAt, List.getElem?_eq_getElem hrc]
   rw [e]
   exact ho43
  ·intro k hk
   rcases hf43 k hk with h | h
   ·exact hfx k h
   ·have := m41.size; omega
  ·rw [seenL_snoc _ _ _ hixc, hc]
   have hT31 := (hTr.setCol hcm (LabEq.refl _ _) (fun _ h => h) hm31 hC31).ext (T' := takeC S.tabs[n] r (seenL (compsM S.masks n) seen ++ [c])) rfl (fun d hd => by
    show (if d ∈ seenL (compsM S.masks n) seen ++ [c] then _ else _) = updC _ c _ d
    by_cases hdc : d = c
    ·subst hdc
     rw [updC_same, if_pos (by simp)]
    ·rw [updC_ne _ hdc]
     simp [takeC, hdc])
   have hP31 := hPr2.setTab hn' (LabEq.refl _ _) (hm31.mono fun k _ hk => FP.mono (fun t ht => .inr (.inr (.inr ⟨c, ht⟩))) hk) hT31
   have := (hP31.same m41).frame hm43 (fun k t e ek => by rw [ho0n k (by have := hfx k ek; omega)] at e; cases e) (LabEq.refl _ _)
   simpa using this
  ·have y1 : Mod (fun i => (FP o0 (colsTag n) i ∨ i = wa.heap.size) ∨ w21.heap.size ≤ i) wr w2' := hm2'.mono fun k _ e => .inl (.inr e)
   have y2 : Mod (fun i => (FP o0 (colsTag n) i ∨ i = wa.heap.size) ∨ w21.heap.size ≤ i) w2' w31 := hm31.mono fun k _ hk => .inl (.inl (FP.mono (fun t ht => ⟨c, ht⟩) hk))
   have y3 : Mod (fun i => (FP o0 (colsTag n) i ∨ i = wa.heap.size) ∨ w21.heap.size ≤ i) w41 w43 := hm43.mono fun k _ e => .inr (by have := hfx k e; omega)
   exact hmr.trans' (y1.trans (y2.trans ((Mod.of_same m41).trans y3)))
end
section
attribute [local irreducible] kO kB kStr kInt kN kG kIf kfld kld kldN kst knew kmap kbld kbldS kext kcnv klenStr klen kcap kprt kprtN kbool kint kstr keq kun ksl kix kiv kta kmk kmm ksem ksemU kextf kcallV kcallM kcall kL
theorem kcallC_of {P : Program} {f : FuncId} {args : List Value} {caps : Array Value} {w : World} {K Q : Value → World → Prop} (h : Meets P f (args.toArray ++ caps) w Q) (hk : ∀ v w', Q v w' → K v w') : kcallV P (.func (.func f) #[] caps) args w K := by
 have : Meets P f (#[] ++ args.toArray ++ caps) w K := by simpa using h.mono hk
 unfold kcallV
 exact this
theorem zPartA : zeroO Tryz.prog 47 = some (.agg #[.int .i64 0, .int .i64 0, .int .i64 0, .int .i64 0, .int .i64 0, .int .i64 0]) := by kernel_rfl
theorem elPart : Tryz.prog.underlying 40 = some (.slice 47) := by kernel_rfl
theorem ksem_clear1 {w : World} {ty : TypeId} {K : Value → World → Prop} {b o cp : Nat} {arr : Array Value} {tt : TypeId} (hb : blk w b = some (.cells arr tt)) (hle : o + 6 ≤ arr.size)
  (h : ∀ w2, Mod (fun k => k = b) w w2 → w2.heap.size = w.heap.size → blk w2 b = some (.cells (setAll (Part.cells ⟨0, 0, 0, 0, 0, 0⟩) arr o) tt) → K (.tuple #[]) w2) :
  ksem Tryz.prog (Builtin.clear_ #[40] ty #[.slice (some ⟨b, o, none⟩) 1 cp]) w K := by
 have hz : ∀ w, (zeroValue 47).run Tryz.prog w = .ok (.agg #[.int .i64 0, .int .i64 0, .int .i64 0, .int .i64 0, .int .i64 0, .int .i64 0]) w := fun w => run_zero' zPartA
 have hst := run_storeCells_cells (P := Tryz.prog) b o (Part.cells ⟨0, 0, 0, 0, 0, 0⟩) 0 w
  (fun j hj => by
   have : j < 6 := hj
   rw [Nat.add_zero, cell_mk, hb, cellO_some]; simp; omega)
  (fun j hj => by simp [World.frozen?, show w.heap[b]? = _ from hb]) (by intro v hv; simp [Part.cells] at hv; rcases hv with rfl | rfl | rfl | rfl | rfl | rfl <;> rfl)
 have hr : (Builtin.clear_ #[40] ty #[.slice (some ⟨b, o, none⟩) 1 cp]).run Tryz.prog w = .ok (.tuple #[]) (w.setCells b o (Part.cells ⟨0, 0, 0, 0, 0, 0⟩)) := by
  have hzc : (Builtin.zeroCells #[.int .i64 0, .int .i64 0, .int .i64 0, .int .i64 0, .int .i64 0, .int .i64 0] 1).toList = Part.cells ⟨0, 0, 0, 0, 0, 0⟩ := by kernel_rfl
  simp only [Nat.add_zero] at hst
  simp only [Builtin.clear_]
  simp [run_underlying elPart, hz, hzc, hst, Result.andThen]
 rw [ksem_ok hr, setCells_blk _ _ _ _ hb]
 exact h _ ((Mod.refl _ _).setBlk _ (.inl rfl)) (setBlk_size _ _ _) (by rw [setBlk_heap, if_pos rfl, hb]; rfl)
theorem isComp_spec (q : Part) {w : World} {bc : Nat} {c : Int} (hb : blk w bc = some (.cells #[.int .i64 c] 3)) : Meets Tryz.prog 64 #[.agg q.cells.toArray, .pointer (some ⟨bc, 0, none⟩)] w fun v w' => v = .bool (decide (q.comp = c)) ∧ Same w w' := by
 refine f64_ok ?_
 unfold f64
 refine knew_of fun w2 hm2 hs2 hb2 => ?_
 have hb2 : blk w2 w.heap.size = some (.cells q.cells.toArray 47) := hb2
 have hbc := hm2.get hb (fun h => h)
 refine kfld_of ?_
 refine kld_of (v := .int .i64 q.comp) hb2 (by simp [Part.cells]) ?_
 repeat (first | refine kN_at ?_ | refine kB_at ?_ | refine kfld_of ?_ | refine kext_at rfl ?_ | refine kld_at hbc rfl ?_ | refine kldN_at hbc rfl (by omega) ?_ | refine kG_of (by first | exact rfl | omega) ?_ | refine klen_at ?_ | refine eql_at ?_ | refine neq_at ?_ | refine lss_at ?_ | refine leq_at ?_ | refine gtr_at ?_ | refine geq_at ?_ | refine add_at (by omega) (by omega) ?_ | refine sub_at (by omega) (by omega) ?_ | refine not_at ?_ | refine kO_at ?_ | refine kprt_at rfl ?_ | refine kprtN_at rfl ?_ | refine kcap_at ?_ | refine klenStr_at ?_ | refine kN_iat ?_ | refine kN_fat ?_ | refine kIf_T (by first | exact rfl | exact decT (by omega) | exact notT (decF (by omega))) ?_ | refine kIf_F (by first | exact rfl | exact decF (by omega) | exact notF (decT (by omega))) ?_)
 exact ⟨rfl, hm2⟩
theorem indexP_spec {w : World} {a : Option Addr} {L : List Part} {cp : Nat} (hs : SlIs w a L.length 6 (L.flatMap Part.cells)) {bc : Nat} {c : Int} (hb : blk w bc = some (.cells #[.int .i64 c] 3)) {k : Nat} (hk : k < L.length) (hkc : (L[k]).comp = c) (hbef : ∀ j (hj : j < L.length), j < k → (L[j]).comp ≠ c) (hlen : L.length ≤ 1000000) :
  Meets Tryz.prog 115 #[.slice a L.length cp, .func (.func 64) #[] #[.pointer (some ⟨bc, 0, none⟩)]] w fun v w' => v = .int .i64 k ∧ Same w w' := by
 refine f115_ok ?_
 unfold f115
 refine klen_at ?_
 refine kL1_of L.length (fun j x wr => x = .int .i64 j ∧ j ≤ k ∧ Same w wr) ⟨lI1_0 ⟨rfl, by omega, Mod.refl _ _⟩, fun x wr hx => ?_⟩
 obtain ⟨j, hj, ⟨rfl, hjk, hm⟩, hJ⟩ := lI1_step hx
 unfold f115_0
 refine lss_at ?_
 refine kB_at ?_
 refine kIf_dec (fun hlt => ?_) (fun hge => ?_)
 ·have hlt : j < L.length := by omega
  unfold f115_1
  refine kixldN_of (F := Part.cells) (sz := 6) (fun _ => rfl) (by omega) (hs.same hm) hlt rfl ?_
  refine kcallC_of (isComp_spec L[j] (hm.get hb (fun h => h))) ?_
  rintro v w7 ⟨rfl, h7⟩
  by_cases hjk' : j = k
  ·subst hjk'
   rw [hkc]
   rw [decT rfl]
   refine kB_at ?_
   refine kIf_T rfl ?_
   exact ⟨rfl, hm.trans h7⟩
  ·rw [decF (hbef j hlt (by omega))]
   refine kB_at ?_
   refine kIf_F rfl ?_
   unfold f115_2
   repeat (first | refine kN_at ?_ | refine kB_at ?_ | refine kfld_of ?_ | refine kext_at rfl ?_ | refine kG_of (by first | exact rfl | omega) ?_ | refine klen_at ?_ | refine eql_at ?_ | refine neq_at ?_ | refine lss_at ?_ | refine leq_at ?_ | refine gtr_at ?_ | refine geq_at ?_ | refine add_at (by omega) (by omega) ?_ | refine sub_at (by omega) (by omega) ?_ | refine not_at ?_ | refine kO_at ?_ | refine kprt_at rfl ?_ | refine kprtN_at rfl ?_ | refine kcap_at ?_ | refine klenStr_at ?_ | refine kN_iat ?_ | refine kN_fat ?_ | refine kIf_T (by first | exact rfl | exact decT (by omega) | exact notT (decF (by omega))) ?_ | refine kIf_F (by first | exact rfl | exact decF (by omega) | exact notF (decT (by omega))) ?_)
   rw [cast_succ]
   exact hJ _ _ hlt ⟨rfl, by omega, hm.trans h7⟩
 ·omega
def Moved (L M : List Part) (k t : Nat) : Prop := M.length = L.length ∧ ∀ x, M[x]? = if x < k ∨ k + t ≤ x then L[x]? else L[x + 1]?
theorem Moved.zero (L : List Part) (k : Nat) : Moved L L k 0 := ⟨rfl, fun x => by rw [if_pos (by omega)]⟩
theorem Moved.step {L M : List Part} {k t : Nat} (h : Moved L M k t) (hk : k + t + 1 < L.length) : Moved L (M.set (k + t) L[k + t + 1]) k (t + 1) := by
 obtain ⟨h1, h2⟩ := h
 refine ⟨by simpa using h1, fun x => ?_⟩
 rw [List.getElem?_set]
 by_cases hx : k + t = x
 ·subst hx
  rw [if_pos rfl, if_pos (by omega), if_neg (by omega), List.getElem?_eq_getElem hk]
 ·rw [if_neg hx, h2 x]
  by_cases h3 : x < k ∨ k + t ≤ x
  ·rw [if_pos h3, if_pos (by omega)]
  ·rw [if_neg h3, if_neg (by omega)]
theorem Moved.done {L M : List Part} {k t : Nat} (h : Moved L M k t) (hk : k + t + 1 = L.length) : M.take (L.length - 1) = L.eraseIdx k := by
 obtain ⟨h1, h2⟩ := h
 apply List.ext_getElem?
 intro x
 rw [List.getElem?_take, List.getElem?_eraseIdx, h2 x]
 by_cases hx : x < L.length - 1
 ·rw [if_pos hx]
  by_cases h3 : x < k
  ·rw [if_pos (.inl h3), if_pos h3]
  ·rw [if_neg (by omega), if_neg h3]
 ·rw [if_neg hx]
  by_cases h3 : x < k
  ·omega
  ·rw [if_neg h3]
   symm
   simp; omega
theorem deleteP_spec {w : World} {v : Value} {L : List Part} (hO : Own w v 6 (L.flatMap Part.cells)) {bc : Nat} {c : Int} (hb : blk w bc = some (.cells #[.int .i64 c] 3)) (hvb : ¬ vblk v bc) {k : Nat} (hk : k < L.length) (hkc : (L[k]).comp = c) (hone : ∀ j (hj : j < L.length), j ≠ k → (L[j]).comp ≠ c) (hlen : L.length ≤ 1000000) :
  Meets Tryz.prog 63 #[v, .func (.func 64) #[] #[.pointer (some ⟨bc, 0, none⟩)]] w fun v' w' => Own w' v' 6 ((L.eraseIdx k).flatMap Part.cells) ∧ Mod (vblk v) w w' ∧ ∀ b, vblk v' b → vblk v b := by
 obtain ⟨bv, cp, arr, t, rfl, hbv, s1, s2, s3⟩ := hO.viewF (F := Part.cells) (sz := 6) (fun _ => rfl) (by omega) (show 0 < L.length by omega)
 obtain ⟨sa, sn, sc, e, hsl, _⟩ := hO.is
 cases e
 have nvc : bc ≠ bv := fun e => hvb (by subst e; exact ⟨0, _, _, rfl⟩)
 have hmv : ∀ {w1 w2 : World}, Mod (fun k => k = bv) w1 w2 → Mod (vblk (.slice (some ⟨bv, 0, none⟩) L.length cp)) w1 w2 := fun h => h.mono fun k _ e => by subst e; exact ⟨0, _, _, rfl⟩
 refine f63_ok ?_
 unfold f63
 refine kcall_of (indexP_spec hsl hb hk hkc (fun j hj hjk => hone j hj (by omega)) hlen) ?_
 rintro v w2 ⟨rfl, h2⟩
 rw [show IntKind.i64 = IntKind.i64 from rfl]
 refine eql_at ?_
 rw [decF (by omega)]
 refine kB_at ?_
 refine kIf_F rfl ?_
 unfold f63_0
 repeat (first | refine kN_at ?_ | refine kB_at ?_ | refine kfld_of ?_ | refine kext_at rfl ?_ | refine kG_of (by first | exact rfl | omega) ?_ | refine klen_at ?_ | refine eql_at ?_ | refine neq_at ?_ | refine lss_at ?_ | refine leq_at ?_ | refine gtr_at ?_ | refine geq_at ?_ | refine add_at (by omega) (by omega) ?_ | refine sub_at (by omega) (by omega) ?_ | refine not_at ?_ | refine kO_at ?_ | refine kprt_at rfl ?_ | refine kprtN_at rfl ?_ | refine kcap_at ?_ | refine klenStr_at ?_ | refine kN_iat ?_ | refine kN_fat ?_ | refine kIf_T (by first | exact rfl | exact decT (by omega) | exact notT (decF (by omega))) ?_ | refine kIf_F (by first | exact rfl | exact decF (by omega) | exact notF (decT (by omega))) ?_)
 rw [cast_succ]
 refine kL2_of (L.length - 1 - k) (fun t x y wr => x = .int .i64 ((k + t : Nat) : Int) ∧ y = .int .i64 ((k + t + 1 : Nat) : Int) ∧ k + t + 1 ≤ L.length ∧ ∃ M, Moved L M k t ∧ Own wr (.slice (some ⟨bv, 0, none⟩) L.length cp) 6 (M.flatMap Part.cells) ∧ Mod (fun k => k = bv) w wr) ⟨lI2_0 ⟨rfl, rfl, by omega, L, Moved.zero L k, hO.same h2, Mod.of_same h2⟩, fun x y wr hx => ?_⟩
 obtain ⟨u, hu, ⟨rfl, rfl, hle, M, hM, hOM, hm⟩, hJ⟩ := lI2_step hx
 have hbr := hm.get hb nvc
 obtain ⟨hMl, hMx⟩ := id hM
 obtain ⟨bv', cp', arr', t', e', hbv', s1', s2', s3'⟩ := hOM.viewF (F := Part.cells) (sz := 6) (fun _ => rfl) (by omega) (show 0 < M.length by omega)
 rw [hMl] at e' s1' s2'
 cases e'
 unfold f63_1
 refine klen_at ?_
 refine lss_at ?_
 refine kB_at ?_
 refine kIf_dec (fun hlt => ?_) (fun hge => ?_)
 ·have hlt : k + u + 1 < L.length := by omega
  have hMj : M[k + u + 1]'(by omega) = L[k + u + 1] := by
   have := hMx (k + u + 1)
   rw [if_pos (by omega), List.getElem?_eq_getElem (by omega), List.getElem?_eq_getElem hlt] at this
   exact Option.some.inj this
  have hsj := s3' (k + u + 1) (by omega)
  rw [hMj] at hsj
  have hqc := hone (k + u + 1) hlt (by omega)
  have hstep := hM.step hlt
  generalize hq : L[k + u + 1] = q at *
  unfold f63_2
  rw [kix_slice]
  refine kG_of (by omega) ?_
  rw [add_mk, Nat.zero_add, Int.toNat_natCast]
  refine kldN_at hbv' hsj (by omega) ?_
  refine knew_of fun w11 h11 hs11 hb11 => ?_
  refine kst_of (vs := q.cells) hb11 rfl rfl rfl (by simp) (by simp [Part.cells]) fun w12 h12 hs12 hb12 => ?_
  have hb12 : blk w12 wr.heap.size = some (.cells q.cells.toArray 47) := hb12
  have m12 : Same wr w12 := h11.trans' (h12.mono fun k _ e => .inr (by omega))
  repeat (first | refine kN_at ?_ | refine kB_at ?_ | refine kfld_of ?_ | refine kext_at rfl ?_ | refine kld_at hb12 rfl ?_ | refine kldN_at hb12 rfl (by omega) ?_ | refine kG_of (by first | exact rfl | omega) ?_ | refine klen_at ?_ | refine eql_at ?_ | refine neq_at ?_ | refine lss_at ?_ | refine leq_at ?_ | refine gtr_at ?_ | refine geq_at ?_ | refine add_at (by omega) (by omega) ?_ | refine sub_at (by omega) (by omega) ?_ | refine not_at ?_ | refine kO_at ?_ | refine kprt_at rfl ?_ | refine kprtN_at rfl ?_ | refine kcap_at ?_ | refine klenStr_at ?_ | refine kN_iat ?_ | refine kN_fat ?_ | refine kIf_T (by first | exact rfl | exact decT (by omega) | exact notT (decF (by omega))) ?_ | refine kIf_F (by first | exact rfl | exact decF (by omega) | exact notF (decT (by omega))) ?_)
  refine kcallC_of (isComp_spec q (m12.get hbr (fun h => h))) ?_
  rintro v w15 ⟨rfl, h15⟩
  rw [decF hqc]
  refine not_at ?_
  refine kB_at ?_
  refine kIf_T rfl ?_
  have hb15 := h15.get hb12 (fun h => h)
  have m15 := m12.trans h15
  have hbv15 := m15.get hbv' (fun h => h)
  repeat (first | refine kN_at ?_ | refine kB_at ?_ | refine kfld_of ?_ | refine kext_at rfl ?_ | refine kld_at hb15 rfl ?_ | refine kldN_at hb15 rfl (by omega) ?_ | refine kG_of (by first | exact rfl | omega) ?_ | refine klen_at ?_ | refine eql_at ?_ | refine neq_at ?_ | refine lss_at ?_ | refine leq_at ?_ | refine gtr_at ?_ | refine geq_at ?_ | refine add_at (by omega) (by omega) ?_ | refine sub_at (by omega) (by omega) ?_ | refine not_at ?_ | refine kO_at ?_ | refine kprt_at rfl ?_ | refine kprtN_at rfl ?_ | refine kcap_at ?_ | refine klenStr_at ?_ | refine kN_iat ?_ | refine kN_fat ?_ | refine kIf_T (by first | exact rfl | exact decT (by omega) | exact notT (decF (by omega))) ?_ | refine kIf_F (by first | exact rfl | exact decF (by omega) | exact notF (decT (by omega))) ?_)
  rw [kix_slice]
  refine kG_of (by omega) ?_
  rw [add_mk, Nat.zero_add, Int.toNat_natCast]
  have hsg := (segL_spec _ _ _ _ (s3' (k + u) (by omega))).1
  rw [Array.length_toList] at hsg
  refine kst_of (vs := q.cells) hbv15 rfl rfl rfl hsg (by simp [Part.cells]) fun w19 h19 hs19 hb19 => ?_
  repeat (first | refine kN_at ?_ | refine kB_at ?_ | refine kfld_of ?_ | refine kext_at rfl ?_ | refine kG_of (by first | exact rfl | omega) ?_ | refine klen_at ?_ | refine eql_at ?_ | refine neq_at ?_ | refine lss_at ?_ | refine leq_at ?_ | refine gtr_at ?_ | refine geq_at ?_ | refine add_at (by omega) (by omega) ?_ | refine sub_at (by omega) (by omega) ?_ | refine not_at ?_ | refine kO_at ?_ | refine kprt_at rfl ?_ | refine kprtN_at rfl ?_ | refine kcap_at ?_ | refine klenStr_at ?_ | refine kN_iat ?_ | refine kN_fat ?_ | refine kIf_T (by first | exact rfl | exact decT (by omega) | exact notT (decF (by omega))) ?_ | refine kIf_F (by first | exact rfl | exact decF (by omega) | exact notF (decT (by omega))) ?_)
  rw [cast_succ, cast_succ]
  refine hJ _ _ _ (by omega) ⟨by rw [Nat.add_assoc], by congr 1, by omega, _, hstep, ?_, hm.trans ((Mod.of_same m15).trans h19)⟩
  exact Own.setF (F := Part.cells) (fun _ => rfl) hOM hbv' (x := q) (i := k + u) hb19 (by omega)
 ·have hge : k + u + 1 = L.length := by omega
  unfold f63_4
  refine ksl_sl_lo (by omega) s1 (by omega) ?_
  rw [show L.length - (k + u) = 1 by omega, Nat.zero_add]
  have hsg := (segL_spec _ _ _ _ (s3' (k + u) (by omega))).1
  rw [Array.length_toList] at hsg
  refine ksem_clear1 hbv' hsg fun w25 h25 hs25 hb25 => ?_
  refine ksl_sl_hi (by omega) ?_
  refine ⟨?_, hmv (hm.trans h25), ?_⟩
  ·have g1 := Own.setF (F := Part.cells) (fun _ => rfl) hOM hbv' (x := ⟨0, 0, 0, 0, 0, 0⟩) (i := k + u) hb25 (by omega)
   have g2 := g1.cutN (k := k + u) (by omega)
   rw [← flat_take (F := Part.cells) (fun _ => rfl), List.take_set_of_le (by omega)] at g2
   have e := hM.done hge
   rw [show L.length - 1 = k + u by omega] at e
   rw [e] at g2
   exact g2
  ·rintro b ⟨_, _, _, e⟩; cases e; exact ⟨_, _, _, rfl⟩
end
section
attribute [local irreducible] kO kB kStr kInt kN kG kIf kfld kld kldN kst knew kmap kbld kbldS kext kcnv klenStr klen kcap kprt kprtN kbool kint kstr keq kun ksl kix kiv kta kmk kmm ksem ksemU kextf kcallV kcallM kcall kL
def layA (S : SM) : SM := layS S (S.masks.length - S.tabs.length)
def Turns (w : World) (bc : Nat) (f : FuncId) (caps : Array Value) (L L2 : List Part) : Prop :=
 ∀ (w1 : World) (sv : Value), w.heap.size ≤ w1.heap.size → blk w1 bc = blk w bc → (∀ k, vblk sv k → w.heap.size ≤ k) → Own w1 sv 6 (L.flatMap Part.cells) →
  Meets Tryz.prog f (#[sv] ++ caps) w1 fun v w2 => Own w2 v 6 (L2.flatMap Part.cells) ∧ Mod (vblk sv) w1 w2 ∧ ∀ k, vblk v k → vblk sv k ∨ w1.heap.size ≤ k
theorem sMove_spec {o : Lab} {w : World} (hD : DeAt w) {b : Nat} {p : Ptrs} {S : SM} (h : StoreP o w b p S) (hDo : o 9 = none) {i : Nat} {g : Int} {n r m nd : Nat} {gm : Int} (hs : S.spots[i]? = some (n, r)) (hn : n < (layA S).tabs.length) (hr : r < (layA S).tabs[n].rows.length) (hcol : ∀ c ∈ compsM S.masks n, ((layA S).tabs[n].col c).length = (layA S).tabs[n].rows.length)
  (hlast : (layA S).tabs[n].rows[(layA S).tabs[n].rows.length - 1]'(by omega) = ((m : Int), gm)) (hm : m < S.spots.length) (hrl : (layA S).tabs[n].rows.length ≤ 1000000)
  {bc : Nat} (hbc : bc < w.heap.size) (hbo : o bc = none) {f : FuncId} {caps : Array Value} {L2 : List Part} (hT : Turns w bc f caps ((compsM S.masks n).map (partAt (layA S).tabs[n] r)) L2)
  (hnd : nd < (leaveS (layA S) n r m hn).tabs.length) (hn16 : L2.length ≤ 64) (hf : ∀ q ∈ L2, FitsP S.cs q) (hin : ∀ q ∈ L2, ∃ c : Nat, q.comp = (c : Int) ∧ c ∈ compsM S.masks nd) (hcol2 : ∀ c ∈ compsM S.masks nd, ((leaveS (layA S) n r m hn).tabs[nd].col c).length + L2.length < 1000000) (hrows2 : (leaveS (layA S) n r m hn).tabs[nd].rows.length < 1000000) :
  Meets Tryz.prog 59 #[ptrV b, entV i g, natV nd, .func (.func f) #[] caps] w fun v w' => v = .nilIface ∧ Turned o w b (enterS (leaveS (layA S) n r m hn) nd i g L2 hnd) w' := by
 have hi : i < S.spots.length := (List.getElem?_eq_some_iff.1 hs).1
 refine f59_ok ?_
 unfold f59
 refine knew_of fun w2 hm2 hs2 hb2 => ?_
 have hb2 : blk w2 w.heap.size = some (.cells #[.int .i64 i, .int .i64 g] 37) := hb2
 have hP2 := h.cut hm2
 have hcutn : ∀ k, w.heap.size ≤ k → cutL o w.heap.size k = none := fun k hk => cutL_none hk
 have hDo0 : cutL o w.heap.size 9 = none := by
  unfold cutL; split
  ·exact hDo
  ·rfl
 have hbo0 : cutL o w.heap.size bc = none := by
  unfold cutL; rw [if_pos hbc]; exact hbo
 refine kcall_of (sLay_spec (hD.same hm2) hP2 hDo0) ?_
 rintro v w4 ⟨rfl, o1, p1, hl1, hP4, hm4, hc4⟩
 have hP4 : StoreP o1 w4 b p1 (layA S) := hP4
 have hsz4 := hm4.size
 have hu1 : ∀ k, k < w2.heap.size → cutL o w.heap.size k = none → o1 k = none := fun k hk e => by rw [hl1 k hk]; exact e
 have hb4 := hm4.get hb2 (fun ⟨t, e1, _⟩ => by rw [hcutn _ (Nat.le_refl _)] at e1; cases e1)
 rw [keq_nil_nil' ifErr]
 refine kB_at ?_
 refine kIf_F rfl ?_
 unfold f59_0
 repeat (first | refine kN_at ?_ | refine kB_at ?_ | refine kfld_of ?_ | refine kext_at rfl ?_ | refine kld_at hb4 rfl ?_ | refine kldN_at hb4 rfl (by omega) ?_ | refine kG_of (by first | exact rfl | omega) ?_ | refine klen_at ?_ | refine eql_at ?_ | refine neq_at ?_ | refine lss_at ?_ | refine leq_at ?_ | refine gtr_at ?_ | refine geq_at ?_ | refine add_at (by omega) (by omega) ?_ | refine sub_at (by omega) (by omega) ?_ | refine not_at ?_ | refine kO_at ?_ | refine kprt_at rfl ?_ | refine kprtN_at rfl ?_ | refine kcap_at ?_ | refine klenStr_at ?_ | refine kN_iat ?_ | refine kN_fat ?_ | refine kIf_T (by first | exact rfl | exact decT (by omega) | exact notT (decF (by omega))) ?_ | refine kIf_F (by first | exact rfl | exact decF (by omega) | exact notF (decT (by omega))) ?_)
 refine kcall_of (sLeave_spec hP4 (g := g) (gm := gm) hs hn hr hcol hlast hm hrl) ?_
 rintro v w9 ⟨sv, rfl, hOs, hfs, hP9, hm9⟩
 have hsz9 := hm9.size
 have hb9 := hm9.get hb4 (fun ⟨t, e1, _⟩ => by rw [hu1 _ (by omega) (hcutn _ (Nat.le_refl _))] at e1; cases e1)
 have hbc9 : blk w9 bc = blk w bc := by
  have e1 : blk w2 bc = blk w bc := hm2.kept bc hbc (fun h => h)
  have e2 : blk w4 bc = blk w2 bc := hm4.kept bc (by omega) (fun ⟨t, e1, _⟩ => by rw [hbo0] at e1; cases e1)
  have e3 : blk w9 bc = blk w4 bc := hm9.kept bc (by omega) (fun ⟨t, e1, _⟩ => by rw [hu1 _ (by omega) hbo0] at e1; cases e1)
  rw [e3, e2, e1]
 repeat (first | refine kN_at ?_ | refine kB_at ?_ | refine kfld_of ?_ | refine kext_at rfl ?_ | refine kG_of (by first | exact rfl | omega) ?_ | refine klen_at ?_ | refine eql_at ?_ | refine neq_at ?_ | refine lss_at ?_ | refine leq_at ?_ | refine gtr_at ?_ | refine geq_at ?_ | refine add_at (by omega) (by omega) ?_ | refine sub_at (by omega) (by omega) ?_ | refine not_at ?_ | refine kO_at ?_ | refine kprt_at rfl ?_ | refine kprtN_at rfl ?_ | refine kcap_at ?_ | refine klenStr_at ?_ | refine kN_iat ?_ | refine kN_fat ?_ | refine kIf_T (by first | exact rfl | exact decT (by omega) | exact notT (decF (by omega))) ?_ | refine kIf_F (by first | exact rfl | exact decF (by omega) | exact notF (decT (by omega))) ?_)
 rw [keq_nil_nil' ifErr]
 refine kB_at ?_
 refine kIf_F rfl ?_
 unfold f59_1
 have md : Same w9 w9.drew := (Mod.refl (fun _ => False) _).drew
 have hb9 := md.get hb9 (fun h => h)
 have hbc9 : blk w9.drew bc = blk w bc := hbc9
 have hOs := hOs.same md
 have hP9 := hP9.same md
 have hm9 := hm9.trans (Mod.of_same md)
 have hsz9 : w4.heap.size ≤ w9.drew.heap.size := hsz9
 generalize w9.drew = wa at *
 repeat (first | refine kN_at ?_ | refine kB_at ?_ | refine kfld_of ?_ | refine kext_at rfl ?_ | refine kld_at hb9 rfl ?_ | refine kldN_at hb9 rfl (by omega) ?_ | refine kG_of (by first | exact rfl | omega) ?_ | refine klen_at ?_ | refine eql_at ?_ | refine neq_at ?_ | refine lss_at ?_ | refine leq_at ?_ | refine gtr_at ?_ | refine geq_at ?_ | refine add_at (by omega) (by omega) ?_ | refine sub_at (by omega) (by omega) ?_ | refine not_at ?_ | refine kO_at ?_ | refine kprt_at rfl ?_ | refine kprtN_at rfl ?_ | refine kcap_at ?_ | refine klenStr_at ?_ | refine kN_iat ?_ | refine kN_fat ?_ | refine kIf_T (by first | exact rfl | exact decT (by omega) | exact notT (decF (by omega))) ?_ | refine kIf_F (by first | exact rfl | exact decF (by omega) | exact notF (decT (by omega))) ?_)
 refine kcallC_of (hT wa sv (by omega) hbc9 (fun k hk => by have := hfs k hk; omega) hOs) ?_
 rintro v w16 ⟨hOv, hm16, hfv⟩
 have hb16 := hm16.get hb9 (fun e => by have := hfs _ e; omega)
 refine kG_of (kldN_at hb16 rfl (by omega) ⟨rfl, rfl⟩) ?_
 have hP16 := hP9.frame hm16 (fun k t e ek => by rw [cutL_none (hfs k ek)] at e; cases e) (LabEq.refl _ _)
 obtain ⟨sa, sn, sc, rfl, hsl, _⟩ := hOv.is
 have hsn : sn = L2.length := by
  have := hsl.1
  rw [flat_len Part.cells 6 (fun _ => rfl)] at this
  omega
 subst hsn
 refine kcall_of (sEnter_spec hP16 hnd (i := i) (by simpa [leaveS, layA, layS] using hi) g hsl (fun k f e => cutL_none ((hfv k ⟨f, L2.length, sc, by rw [e]⟩).elim (fun h => hfs k h) (fun h => by omega))) hn16 hf hin hcol2 hrows2) ?_
 rintro v w18 ⟨rfl, h18⟩
 refine ⟨rfl, Turned.wrap hm2 ?_ (Mod.refl _ _)⟩
 refine Turned.seq (o1 := o1) (w1 := w4) hl1 hm4 (Mod.refl _ _) ?_
 exact Turned.seq (o1 := cutL o1 w4.heap.size) (w1 := w16) (LabEq.cut _ _) (hm9.trans' (hm16.mono fun k _ e => .inr (hfs k e))) (Mod.refl _ _) h18
end
section
theorem takeRow_get {α : Type} (l : List α) {r : Nat} (hr : r < l.length) (x : Nat) : (takeRow l r)[x]? = if x < l.length - 1 then (if x = r then l[l.length - 1]? else l[x]?) else none := by
 rw [takeRow_eq (by omega), List.getElem?_take]
 by_cases hx : x < l.length - 1
 ·rw [if_pos hx, if_pos hx, List.getElem?_set]
  by_cases h : x = r
  ·subst h
   rw [if_pos rfl, if_pos hr, if_pos rfl, List.getElem?_eq_getElem]
  ·rw [if_neg (fun e => h e.symm), if_neg h]
 ·rw [if_neg hx, if_neg hx]
theorem takeRow_len {α : Type} (l : List α) {r : Nat} (hr : r < l.length) : (takeRow l r).length = l.length - 1 := by
 rw [takeRow_eq (by omega)]
 simp
structure WFe (S : SM) (ex : Nat → Prop) : Prop where
 gs : S.gens.length = S.spots.length
 live : ∀ i g, S.gens[i]? = some (g, true) → ¬ ex i → ∃ n r T, S.spots[i]? = some (n, r) ∧ S.tabs[n]? = some T ∧ T.rows[r]? = some ((i : Int), g)
 rows : ∀ n T r e, S.tabs[n]? = some T → T.rows[r]? = some e → ∃ i : Nat, e.1 = (i : Int) ∧ ¬ ex i ∧ S.gens[i]? = some (e.2, true) ∧ S.spots[i]? = some (n, r)
 cols : ∀ n T c, S.tabs[n]? = some T → c ∈ compsM S.masks n → (T.col c).length = T.rows.length
def WF (S : SM) : Prop := WFe S fun _ => False
def partsOf (S : SM) (i : Nat) : List Part := match S.spots[i]? with
 | some (n, r) => match S.tabs[n]? with
  | some T => (compsM S.masks n).map (partAt T r)
  | none => []
 | none => []
theorem partsOf_eq {S : SM} {i n r : Nat} {T : TabM} (h : S.spots[i]? = some (n, r)) (hT : S.tabs[n]? = some T) : partsOf S i = (compsM S.masks n).map (partAt T r) := by
 unfold partsOf; simp [h, hT]
theorem WFe.rows_le {S : SM} {ex : Nat → Prop} (h : WFe S ex) {n : Nat} {T : TabM} (hT : S.tabs[n]? = some T) : T.rows.length ≤ S.spots.length := by
 have hnd : ((List.range T.rows.length).map fun r => ((T.rows[r]?).getD (0, 0)).1.toNat).Nodup := by
  unfold List.Nodup
  rw [List.pairwise_map]
  refine List.nodup_range.imp_of_mem fun {a b} ha hb hab e => ?_
  have ha : a < T.rows.length := by simpa using ha
  have hb : b < T.rows.length := by simpa using hb
  obtain ⟨i, e1, _, _, s1⟩ := h.rows n T a _ hT (List.getElem?_eq_getElem ha)
  obtain ⟨j, e2, _, _, s2⟩ := h.rows n T b _ hT (List.getElem?_eq_getElem hb)
  simp only [List.getElem?_eq_getElem ha, List.getElem?_eq_getElem hb, Option.getD_some, e1, e2, Int.toNat_natCast] at e
  subst e
  rw [s1] at s2
  cases s2
  exact hab rfl
 have := List.Nodup.length_le_of_subset hnd (l₂ := List.range S.spots.length) (fun x hx => by
  obtain ⟨r, hr, rfl⟩ := List.mem_map.1 hx
  have hr : r < T.rows.length := by simpa using hr
  obtain ⟨i, e1, _, _, s1⟩ := h.rows n T r _ hT (List.getElem?_eq_getElem hr)
  simp only [List.getElem?_eq_getElem hr, Option.getD_some, e1, Int.toNat_natCast]
  simpa using (List.getElem?_eq_some_iff.1 s1).1)
 simpa using this
theorem WFe.stand {S : SM} {ex : Nat → Prop} (h : WFe S ex) {i : Nat} {g : Int} (hg : S.gens[i]? = some (g, true)) (hx : ¬ ex i) : ∃ n r, S.spots[i]? = some (n, r) ∧ ∃ hn : n < S.tabs.length, ∃ hr : r < (S.tabs[n]).rows.length, (S.tabs[n]).rows[r] = ((i : Int), g) ∧
  ∃ (m : Nat) (gm : Int), (S.tabs[n]).rows[(S.tabs[n]).rows.length - 1]'(by omega) = ((m : Int), gm) ∧ m < S.spots.length ∧ S.spots[m]? = some (n, (S.tabs[n]).rows.length - 1) := by
 obtain ⟨n, r, T, h1, h2, h3⟩ := h.live i g hg hx
 obtain ⟨hn, e⟩ := List.getElem?_eq_some_iff.1 h2
 subst e
 obtain ⟨hr, e⟩ := List.getElem?_eq_some_iff.1 h3
 obtain ⟨m, e1, _, _, s1⟩ := h.rows n _ ((S.tabs[n]).rows.length - 1) _ h2 (List.getElem?_eq_getElem (by omega))
 refine ⟨n, r, h1, hn, hr, e, m, _, Prod.ext e1 rfl, (List.getElem?_eq_some_iff.1 s1).1, s1⟩
theorem leaveS_tabs {S : SM} {n r m : Nat} (hn : n < S.tabs.length) (k : Nat) : (leaveS S n r m hn).tabs[k]? = if k = n then some ⟨takeRow S.tabs[n].rows r, fun c => takeRow (S.tabs[n].col c) r⟩ else S.tabs[k]? := by
 unfold leaveS
 rw [List.getElem?_set]
 by_cases h : n = k
 ·subst h; rw [if_pos rfl, if_pos hn, if_pos rfl]
 ·rw [if_neg h, if_neg (fun e => h e.symm)]
theorem leaveS_spots {S : SM} {n r m : Nat} (hn : n < S.tabs.length) (hm : m < S.spots.length) (k : Nat) : (leaveS S n r m hn).spots[k]? = if k = m then some (n, r) else S.spots[k]? := by
 unfold leaveS
 rw [List.getElem?_set]
 by_cases h : m = k
 ·subst h; rw [if_pos rfl, if_pos hm, if_pos rfl]
 ·rw [if_neg h, if_neg (fun e => h e.symm)]
theorem WFe.leave {S : SM} (h : WF S) {i n r m : Nat} {g gm : Int} (hs : S.spots[i]? = some (n, r)) (hn : n < S.tabs.length) (hr : r < (S.tabs[n]).rows.length) (hri : (S.tabs[n]).rows[r] = ((i : Int), g))
  (hl : (S.tabs[n]).rows[(S.tabs[n]).rows.length - 1]'(by omega) = ((m : Int), gm)) (hm : m < S.spots.length) (hsm : S.spots[m]? = some (n, (S.tabs[n]).rows.length - 1)) :
  WFe (leaveS S n r m hn) (· = i) ∧ ∀ j gj, j ≠ i → S.gens[j]? = some (gj, true) → partsOf (leaveS S n r m hn) j = partsOf S j := by
 have hTn : S.tabs[n]? = some S.tabs[n] := List.getElem?_eq_getElem hn
 have hT' := leaveS_tabs (r := r) (m := m) hn
 have hS' := leaveS_spots (r := r) hn hm
 have hlq : (S.tabs[n]).rows[(S.tabs[n]).rows.length - 1]? = some ((m : Int), gm) := by rw [List.getElem?_eq_getElem (by omega), hl]
 have hrow := takeRow_get (S.tabs[n]).rows hr
 have hmi : m = i → r = (S.tabs[n]).rows.length - 1 := fun e => by subst e; rw [hs] at hsm; cases hsm; rfl
 have him : r = (S.tabs[n]).rows.length - 1 → m = i := fun e => by
  have : (S.tabs[n]).rows[r]? = some ((m : Int), gm) := by rw [e]; exact hlq
  rw [List.getElem?_eq_getElem hr, hri] at this
  simp at this; omega
 have key : ∀ j gj, j ≠ i → S.gens[j]? = some (gj, true) → ∃ n' r' T', (leaveS S n r m hn).spots[j]? = some (n', r') ∧ (leaveS S n r m hn).tabs[n']? = some T' ∧ T'.rows[r']? = some ((j : Int), gj) ∧
   ∃ r0 T0, S.spots[j]? = some (n', r0) ∧ S.tabs[n']? = some T0 ∧ ∀ c ∈ compsM S.masks n', (T'.col c)[r']? = (T0.col c)[r0]? := by
  intro j gj hj hgj
  obtain ⟨n', r', T', h1, h2, h3⟩ := h.live j gj hgj (fun h => h)
  by_cases hnn : n' = n
  ·subst hnn
   rw [hTn] at h2; cases h2
   have hr'l := (List.getElem?_eq_some_iff.1 h3).1
   have hrr : r' ≠ r := fun e => by
    subst e
    rw [List.getElem?_eq_getElem hr, hri] at h3
    simp at h3; omega
   by_cases hlast : r' = (S.tabs[n']).rows.length - 1
   ·have hjm : j = m := by
     rw [hlast, hlq] at h3
     simp at h3; omega
    subst hjm
    refine ⟨n', r, _, by rw [hS', if_pos rfl], by rw [hT', if_pos rfl], ?_, r', _, h1, hTn, fun c hc => ?_⟩
    ·show (takeRow _ r)[r]? = _
     rw [hrow, if_pos (by omega), if_pos rfl, ← hlast, h3]
    ·show (takeRow ((S.tabs[n']).col c) r)[r]? = _
     have hcl := h.cols n' _ c hTn hc
     rw [takeRow_get _ (by omega), hcl, if_pos (by omega), if_pos rfl, hlast]
   ·refine ⟨n', r', _, by rw [hS', if_neg (fun e => by subst e; rw [hsm] at h1; cases h1; exact hlast rfl)]; exact h1, by rw [hT', if_pos rfl], ?_, r', _, h1, hTn, fun c hc => ?_⟩
    ·show (takeRow _ r)[r']? = _
     rw [hrow, if_pos (by omega), if_neg hrr, h3]
    ·show (takeRow ((S.tabs[n']).col c) r)[r']? = _
     have hcl := h.cols n' _ c hTn hc
     rw [takeRow_get _ (by omega), hcl, if_pos (by omega), if_neg hrr]
  ·exact ⟨n', r', T', by rw [hS', if_neg (fun e => by subst e; rw [hsm] at h1; cases h1; exact hnn rfl)]; exact h1, by rw [hT', if_neg hnn]; exact h2, h3, r', T', h1, h2, fun c _ => rfl⟩
 refine ⟨⟨?_, ?_, ?_, ?_⟩, ?_⟩
 ·show S.gens.length = (S.spots.set m (n, r)).length
  rw [List.length_set]; exact h.gs
 ·intro j gj hgj hj
  obtain ⟨n', r', T', k1, k2, k3, _⟩ := key j gj hj hgj
  exact ⟨n', r', T', k1, k2, k3⟩
 ·intro n' T' r' e hTq hre
  rw [hT'] at hTq
  by_cases hnn : n' = n
  ·subst hnn
   rw [if_pos rfl] at hTq
   cases hTq
   have hre : (takeRow (S.tabs[n']).rows r)[r']? = some e := hre
   rw [hrow] at hre
   by_cases hlt : r' < (S.tabs[n']).rows.length - 1
   ·rw [if_pos hlt] at hre
    by_cases hrr : r' = r
    ·subst hrr
     rw [if_pos rfl, hlq] at hre
     cases hre
     obtain ⟨m', e1, _, e3, e4⟩ := h.rows n' _ _ _ hTn hlq
     have : m' = m := by simp at e1; omega
     subst this
     exact ⟨m', rfl, fun e => by have := hmi e; omega, e3, by rw [hS', if_pos rfl]⟩
    ·rw [if_neg hrr] at hre
     obtain ⟨j, e1, _, e3, e4⟩ := h.rows n' _ _ _ hTn hre
     refine ⟨j, e1, fun e => ?_, e3, ?_⟩
     ·subst e; rw [hs] at e4; cases e4; exact hrr rfl
     ·rw [hS', if_neg (fun e => by subst e; rw [hsm] at e4; cases e4; omega)]; exact e4
   ·rw [if_neg hlt] at hre; cases hre
  ·rw [if_neg hnn] at hTq
   obtain ⟨j, e1, _, e3, e4⟩ := h.rows n' _ _ _ hTq hre
   refine ⟨j, e1, fun e => ?_, e3, ?_⟩
   ·subst e; rw [hs] at e4; cases e4; exact hnn rfl
   ·rw [hS', if_neg (fun e => by subst e; rw [hsm] at e4; cases e4; exact hnn rfl)]; exact e4
 ·intro n' T' c hTq hc
  rw [hT'] at hTq
  by_cases hnn : n' = n
  ·subst hnn
   rw [if_pos rfl] at hTq
   cases hTq
   have hcl := h.cols n' _ c hTn hc
   show (takeRow ((S.tabs[n']).col c) r).length = (takeRow (S.tabs[n']).rows r).length
   rw [takeRow_len _ (by omega), takeRow_len _ hr, hcl]
  ·rw [if_neg hnn] at hTq
   exact h.cols n' _ c hTq hc
 ·intro j gj hj hgj
  obtain ⟨n', r', T', k1, k2, k3, r0, T0, k4, k5, k6⟩ := key j gj hj hgj
  rw [partsOf_eq k1 k2, partsOf_eq k4 k5]
  refine List.map_congr_left fun c hc => ?_
  unfold partAt
  rw [k6 c hc]
end
section
theorem filt_parts (z : Part) : ∀ (comps : List Nat) (L : List Part), L.map (·.comp) = comps.map (fun c : Nat => (c : Int)) → comps.Nodup →
  (∀ c ∈ comps, (L.filter fun q => decide (q.comp = (c : Int))).length = 1) ∧ comps.map (fun c : Nat => ((L.filter fun q => decide (q.comp = (c : Int)))[0]?).getD z) = L
 | [], L, h, _ => by
  cases L with
  | nil => simp
  | cons q L => simp at h
 | c :: cs, [], h, _ => by simp at h
 | c :: cs, q :: L, h, hn => by
  rw [List.map_cons, List.map_cons, List.cons.injEq] at h
  rw [List.nodup_cons] at hn
  obtain ⟨i1, i2⟩ := filt_parts z cs L h.2 hn.2
  have hq : decide (q.comp = (c : Int)) = true := decide_eq_true h.1
  have hd : ∀ d ∈ cs, decide (q.comp = (d : Int)) = false := fun d hd => decide_eq_false fun e => by
   have : d = c := by have := h.1; omega
   subst this; exact hn.1 hd
  have hL : L.filter (fun q => decide (q.comp = (c : Int))) = [] := by
   rw [List.filter_eq_nil_iff]
   intro x hx
   have hm : x.comp ∈ cs.map (fun c : Nat => (c : Int)) := h.2 ▸ List.mem_map.2 ⟨x, hx, rfl⟩
   obtain ⟨d, hdm, e⟩ := List.mem_map.1 hm
   have : ¬ x.comp = (c : Int) := fun e2 => by
    have : d = c := by omega
    subst this; exact hn.1 hdm
   simpa using this
  refine ⟨fun d hdm => ?_, ?_⟩
  ·rcases List.mem_cons.1 hdm with rfl | hdm
   ·rw [List.filter_cons_of_pos (by simpa using hq), hL]; rfl
   ·rw [List.filter_cons_of_neg (by simpa using hd d hdm)]; exact i1 d hdm
  ·rw [List.map_cons, List.filter_cons_of_pos (by simpa using hq)]
   congr 1
   refine Eq.trans (List.map_congr_left fun d hdm => ?_) i2
   rw [List.filter_cons_of_neg (by simpa using hd d hdm)]
theorem enterS_tabs {S : SM} {n i : Nat} {g : Int} {L : List Part} (hn : n < S.tabs.length) (k : Nat) : (enterS S n i g L hn).tabs[k]? = if k = n then some ⟨S.tabs[n].rows ++ [((i : Int), g)], (pushC S.tabs[n] L).col⟩ else S.tabs[k]? := by
 unfold enterS
 rw [List.getElem?_set]
 by_cases h : n = k
 ·subst h; rw [if_pos rfl, if_pos hn, if_pos rfl]
 ·rw [if_neg h, if_neg (fun e => h e.symm)]
theorem enterS_spots {S : SM} {n i : Nat} {g : Int} {L : List Part} (hn : n < S.tabs.length) (hi : i < S.spots.length) (k : Nat) : (enterS S n i g L hn).spots[k]? = if k = i then some (n, S.tabs[n].rows.length) else S.spots[k]? := by
 unfold enterS
 rw [List.getElem?_set]
 by_cases h : i = k
 ·subst h; rw [if_pos rfl, if_pos hi, if_pos rfl]
 ·rw [if_neg h, if_neg (fun e => h e.symm)]
theorem WFe.enter {S : SM} {i : Nat} (h : WFe S (· = i)) {g : Int} (hg : S.gens[i]? = some (g, true)) {n : Nat} (hn : n < S.tabs.length) {L : List Part} (hLc : L.map (·.comp) = (compsM S.masks n).map (fun c : Nat => (c : Int))) :
  WF (enterS S n i g L hn) ∧ partsOf (enterS S n i g L hn) i = L ∧ ∀ j gj, j ≠ i → S.gens[j]? = some (gj, true) → partsOf (enterS S n i g L hn) j = partsOf S j := by
 have hi : i < S.spots.length := by rw [← h.gs]; exact (List.getElem?_eq_some_iff.1 hg).1
 have hTn : S.tabs[n]? = some S.tabs[n] := List.getElem?_eq_getElem hn
 have hT' := enterS_tabs (i := i) (g := g) (L := L) hn
 have hS' := enterS_spots (g := g) (L := L) hn hi
 obtain ⟨f1, f2⟩ := filt_parts ⟨0, 0, 0, 0, 0, 0⟩ _ L hLc (compsM_nodup S.masks n)
 have key : ∀ j gj, j ≠ i → S.gens[j]? = some (gj, true) → ∃ n' r' T', (enterS S n i g L hn).spots[j]? = some (n', r') ∧ (enterS S n i g L hn).tabs[n']? = some T' ∧ T'.rows[r']? = some ((j : Int), gj) ∧
   ∃ T0, S.spots[j]? = some (n', r') ∧ S.tabs[n']? = some T0 ∧ ∀ c ∈ compsM S.masks n', (T'.col c)[r']? = (T0.col c)[r']? := by
  intro j gj hj hgj
  obtain ⟨n', r', T', h1, h2, h3⟩ := h.live j gj hgj hj
  by_cases hnn : n' = n
  ·subst hnn
   rw [hTn] at h2; cases h2
   have hr'l := (List.getElem?_eq_some_iff.1 h3).1
   refine ⟨n', r', _, by rw [hS', if_neg hj]; exact h1, by rw [hT', if_pos rfl], ?_, _, h1, hTn, fun c hc => ?_⟩
   ·show (S.tabs[n'].rows ++ _)[r']? = _
    rw [List.getElem?_append_left hr'l]; exact h3
   ·show (S.tabs[n'].col c ++ _)[r']? = _
    rw [List.getElem?_append_left (by rw [h.cols n' _ c hTn hc]; exact hr'l)]
  ·exact ⟨n', r', T', by rw [hS', if_neg hj]; exact h1, by rw [hT', if_neg hnn]; exact h2, h3, T', h1, h2, fun c _ => rfl⟩
 refine ⟨⟨?_, ?_, ?_, ?_⟩, ?_, ?_⟩
 ·show S.gens.length = (S.spots.set i _).length
  rw [List.length_set]; exact h.gs
 ·intro j gj hgj _
  by_cases hj : j = i
  ·subst hj
   have : S.gens[j]? = some (gj, true) := hgj
   rw [hg] at this; cases this
   refine ⟨n, S.tabs[n].rows.length, _, by rw [hS', if_pos rfl], by rw [hT', if_pos rfl], ?_⟩
   show (S.tabs[n].rows ++ _)[_]? = _
   rw [List.getElem?_append_right (by omega)]; simp
  ·obtain ⟨n', r', T', k1, k2, k3, _⟩ := key j gj hj hgj
   exact ⟨n', r', T', k1, k2, k3⟩
 ·intro n' T' r' e hTq hre
  rw [hT'] at hTq
  by_cases hnn : n' = n
  ·subst hnn
   rw [if_pos rfl] at hTq
   cases hTq
   have hre : (S.tabs[n'].rows ++ [((i : Int), g)])[r']? = some e := hre
   rcases Nat.lt_or_ge r' S.tabs[n'].rows.length with hlt | hge
   ·rw [List.getElem?_append_left hlt] at hre
    obtain ⟨j, e1, e2, e3, e4⟩ := h.rows n' _ _ _ hTn hre
    exact ⟨j, e1, fun h => h, e3, by rw [hS', if_neg e2]; exact e4⟩
   ·rw [List.getElem?_append_right hge] at hre
    have h0 : r' - S.tabs[n'].rows.length = 0 := by
     have := (List.getElem?_eq_some_iff.1 hre).1
     simp at this; omega
    rw [h0] at hre
    simp at hre
    subst hre
    exact ⟨i, rfl, fun h => h, hg, by rw [hS', if_pos rfl, show r' = S.tabs[n'].rows.length by omega]⟩
  ·rw [if_neg hnn] at hTq
   obtain ⟨j, e1, e2, e3, e4⟩ := h.rows n' _ _ _ hTq hre
   exact ⟨j, e1, fun h => h, e3, by rw [hS', if_neg e2]; exact e4⟩
 ·intro n' T' c hTq hc
  rw [hT'] at hTq
  by_cases hnn : n' = n
  ·subst hnn
   rw [if_pos rfl] at hTq
   cases hTq
   have hcl := h.cols n' _ c hTn hc
   have := f1 c hc
   show (S.tabs[n'].col c ++ L.filter _).length = (S.tabs[n'].rows ++ _).length
   rw [List.length_append, List.length_append, hcl, this]; rfl
  ·rw [if_neg hnn] at hTq
   exact h.cols n' _ c hTq hc
 ·have k1 := hS' i
  rw [if_pos rfl] at k1
  have k2 := hT' n
  rw [if_pos rfl] at k2
  rw [partsOf_eq k1 k2]
  refine Eq.trans (List.map_congr_left fun c hc => ?_) f2
  have hcl := h.cols n _ c hTn hc
  show ((S.tabs[n].col c ++ L.filter _)[S.tabs[n].rows.length]?).getD _ = _
  rw [List.getElem?_append_right (by omega), hcl, Nat.sub_self]
 ·intro j gj hj hgj
  obtain ⟨n', r', T', k1, k2, k3, T0, k4, k5, k6⟩ := key j gj hj hgj
  rw [partsOf_eq k1 k2, partsOf_eq k4 k5]
  refine List.map_congr_left fun c hc => ?_
  unfold partAt
  rw [k6 c hc]
theorem WFe.masks {S : SM} {ex : Nat → Prop} (h : WFe S ex) (ht : S.tabs.length ≤ S.masks.length) (m : Nat) : WFe { S with masks := addM S.masks m } ex ∧ ∀ j gj, ¬ ex j → S.gens[j]? = some (gj, true) → partsOf { S with masks := addM S.masks m } j = partsOf S j := by
 refine ⟨⟨h.gs, h.live, h.rows, fun n T c hT hc => ?_⟩, fun j gj hj hgj => ?_⟩
 ·have hn : n < S.tabs.length := (List.getElem?_eq_some_iff.1 hT).1
  refine h.cols n T c hT ?_
  rw [← compsM_addM (m := m) (by omega)]; exact hc
 ·obtain ⟨n, r, T, h1, h2, h3⟩ := h.live j gj hgj hj
  have hn := (List.getElem?_eq_some_iff.1 h2).1
  rw [partsOf_eq (S := { S with masks := addM S.masks m }) h1 h2, partsOf_eq h1 h2]
  show (compsM (addM S.masks m) n).map _ = _
  rw [compsM_addM (by omega)]
theorem layS_tabs {S : SM} {k n : Nat} {T : TabM} (h : (layS S k).tabs[n]? = some T) : S.tabs[n]? = some T ∨ T = TabM.empty := by
 unfold layS at h
 rcases Nat.lt_or_ge n S.tabs.length with hn | hn
 ·rw [List.getElem?_append_left hn] at h; exact .inl h
 ·rw [List.getElem?_append_right hn] at h
  have := (List.getElem?_eq_some_iff.1 h)
  obtain ⟨h1, h2⟩ := this
  rw [List.getElem_replicate] at h2
  exact .inr h2.symm
theorem WFe.lay {S : SM} {ex : Nat → Prop} (h : WFe S ex) (k : Nat) : WFe (layS S k) ex ∧ ∀ j gj, ¬ ex j → S.gens[j]? = some (gj, true) → partsOf (layS S k) j = partsOf S j := by
 have hup : ∀ {n T}, S.tabs[n]? = some T → (layS S k).tabs[n]? = some T := fun {n T} e => by
  unfold layS
  rw [List.getElem?_append_left (List.getElem?_eq_some_iff.1 e).1]; exact e
 refine ⟨⟨h.gs, fun i g hg hx => ?_, fun n T r e hT hr => ?_, fun n T c hT hc => ?_⟩, fun j gj hj hgj => ?_⟩
 ·obtain ⟨n, r, T, h1, h2, h3⟩ := h.live i g hg hx
  exact ⟨n, r, T, h1, hup h2, h3⟩
 ·rcases layS_tabs hT with hT | rfl
  ·exact h.rows n T r e hT hr
  ·cases hr
 ·rcases layS_tabs hT with hT | rfl
  ·exact h.cols n T c hT hc
  ·rfl
 ·obtain ⟨n, r, T, h1, h2, h3⟩ := h.live j gj hgj hj
  rw [partsOf_eq (S := layS S k) h1 (hup h2), partsOf_eq h1 h2]; rfl
theorem WFe.born {S : SM} (h : WF S) {i : Nat} {g0 g1 : Int} (hg : S.gens[i]? = some (g0, false)) (free : List Nat) : WFe (rollS S (S.gens.set i (g1, true)) free) (· = i) := by
 have hi := (List.getElem?_eq_some_iff.1 hg).1
 have hne : ∀ j, j ≠ i → (S.gens.set i (g1, true))[j]? = S.gens[j]? := fun j hj => by rw [List.getElem?_set_ne (fun e => hj e.symm)]
 refine ⟨by show (S.gens.set i _).length = _; rw [List.length_set]; exact h.gs, fun j g hgj hj => ?_, fun n T r e hT hr => ?_, h.cols⟩
 ·have hgj : (S.gens.set i (g1, true))[j]? = some (g, true) := hgj
  rw [hne j hj] at hgj
  exact h.live j g hgj (fun h => h)
 ·obtain ⟨j, e1, _, e3, e4⟩ := h.rows n T r e hT hr
  have hj : j ≠ i := fun e => by subst e; rw [hg] at e3; cases e3
  exact ⟨j, e1, hj, by show (S.gens.set i (g1, true))[j]? = _; rw [hne j hj]; exact e3, e4⟩
theorem comps_sorted {S : SM} (hcs : S.cs.length ≤ 16) {L L' : List Part} (hf : ∀ q ∈ L, FitsP S.cs q) (hnt : NoTwice L) (hp : L'.Perm L) (hs : L'.Pairwise (fun x y => x.comp ≤ y.comp)) : L'.map (·.comp) = (listF (maskP L)).map (fun c : Nat => (c : Int)) := by
 refine List.Perm.eq_of_pairwise (le := fun x y : Int => x ≤ y) (fun a b _ _ h1 h2 => by omega) ?_ ?_ ?_
 ·rw [List.pairwise_map]; exact hs
 ·rw [List.pairwise_map]; exact (listF_sorted _).imp (fun h => by omega)
 ·refine (hp.map _).trans ((List.perm_ext_iff_of_nodup hnt ?_).2 fun a => ?_)
  ·unfold List.Nodup
   rw [List.pairwise_map]
   exact (listF_nodup _).imp (fun h e => h (by omega))
  ·rw [List.mem_map, List.mem_map]
   constructor
   ·rintro ⟨q, hq, rfl⟩
    obtain ⟨d, e1, e2, _⟩ := hf q hq
    exact ⟨d, listF_mem.2 ⟨by omega, (maskP_bit S.cs hcs L hf d).2 ⟨q, hq, e1⟩⟩, e1.symm⟩
   ·rintro ⟨d, hd, rfl⟩
    obtain ⟨q, hq, e⟩ := (maskP_bit S.cs hcs L hf d).1 (listF_mem.1 hd).2
    exact ⟨q, hq, e⟩
end
section
def FreeOk (S : SM) : Prop := S.free.Nodup ∧ ∀ i, i ∈ S.free ↔ ∃ g, S.gens[i]? = some (g, false)
structure GS (S : SM) (t : Nat) : Prop where
 wf : WF S
 fr : FreeOk S
 gen : ∀ (i : Nat) (x : Int × Bool), S.gens[i]? = some x → 0 ≤ x.1 ∧ x.1 ≤ (t : Int)
 ml : S.masks.length ≤ t + 1
 g64 : S.gens.length ≤ 64
theorem addM_len (ms : List Nat) (m : Nat) : ms.length ≤ (addM ms m).length ∧ (addM ms m).length ≤ ms.length + 1 := by
 unfold addM; split <;> simp
theorem GS.bnd {S : SM} {t : Nat} (h : GS S t) : Bnd S := by
 intro n T hT
 have h1 := h.wf.rows_le hT
 have h2 := h.wf.gs
 have h3 := h.g64
 refine ⟨by omega, fun c hc => ?_⟩
 rw [h.wf.cols n T c hT hc]; omega
structure Born (S S' : SM) (L' : List Part) (i : Nat) (g : Int) : Prop where
 gens : S'.gens = S.gens.set i (g, true)
 cs : S'.cs = S.cs
 masks : S'.masks = addM S.masks (maskP L')
 tabs : S'.tabs.length = S'.masks.length
 free : S'.free = S.free.dropLast
 parts : partsOf S' i = L'
 others : ∀ j gj, j ≠ i → S.gens[j]? = some (gj, true) → partsOf S' j = partsOf S j
theorem maskP_perm {cs : List Comp} (hcs : cs.length ≤ 16) {L L' : List Part} (hp : L'.Perm L) (hf : ∀ q ∈ L, FitsP cs q) : maskP L' = maskP L := by
 have hf' : ∀ q ∈ L', FitsP cs q := fun q hq => hf q (hp.mem_iff.1 hq)
 apply Nat.eq_of_testBit_eq
 intro c
 rw [Bool.eq_iff_iff, maskP_bit cs hcs L' hf' c, maskP_bit cs hcs L hf c]
 exact ⟨fun ⟨q, h, e⟩ => ⟨q, hp.mem_iff.1 h, e⟩, fun ⟨q, h, e⟩ => ⟨q, hp.mem_iff.2 h, e⟩⟩
theorem GS.spawn {S : SM} {t : Nat} (h : GS S t) (ht : S.tabs.length ≤ S.masks.length) (hcs : S.cs.length ≤ 16) {K i : Nat} {g0 : Int} (hK : K + 1 = S.free.length) (hi : S.free[K]'(by omega) = i) (hg : S.gens[i]? = some (g0, false))
  {L L' : List Part} (hf : ∀ q ∈ L, FitsP S.cs q) (hnt : NoTwice L) (hp : L'.Perm L) (hs : L'.Pairwise (fun x y => x.comp ≤ y.comp)) :
  GS (spawnS S (maskP L) i (g0 + 1) L' ht (S.gens.set i (g0 + 1, true)) (S.free.take K)) (t + 1) ∧ Born S (spawnS S (maskP L) i (g0 + 1) L' ht (S.gens.set i (g0 + 1, true)) (S.free.take K)) L' i (g0 + 1) := by
 have hil := (List.getElem?_eq_some_iff.1 hg).1
 have w1 := WFe.born h.wf hg (g1 := g0 + 1) (S.free.take K)
 obtain ⟨w2, v2⟩ := w1.masks ht (maskP L)
 obtain ⟨w3, v3⟩ := w2.lay ((addM S.masks (maskP L)).length - S.tabs.length)
 have hn : (addM S.masks (maskP L)).idxOf (maskP L) < (laidS (rollS S (S.gens.set i (g0 + 1, true)) (S.free.take K)) (maskP L)).tabs.length := by
  have e := laidS_len (S := rollS S (S.gens.set i (g0 + 1, true)) (S.free.take K)) ht (maskP L)
  rw [e]; exact idx_addM_lt _ _
 have hgi : (laidS (rollS S (S.gens.set i (g0 + 1, true)) (S.free.take K)) (maskP L)).gens[i]? = some (g0 + 1, true) := by
  show (S.gens.set i (g0 + 1, true))[i]? = _
  rw [List.getElem?_set, if_pos rfl, if_pos hil]
 have hLc : L'.map (·.comp) = (compsM (laidS (rollS S (S.gens.set i (g0 + 1, true)) (S.free.take K)) (maskP L)).masks ((addM S.masks (maskP L)).idxOf (maskP L))).map (fun c : Nat => (c : Int)) := by
  show _ = (compsM (addM S.masks (maskP L)) _).map _
  unfold compsM
  rw [idx_addM]
  exact comps_sorted hcs hf hnt hp hs
 obtain ⟨w4, v4, v5⟩ := WFe.enter w3 hgi hn hLc
 have hlen : (spawnS S (maskP L) i (g0 + 1) L' ht (S.gens.set i (g0 + 1, true)) (S.free.take K)).tabs.length = (addM S.masks (maskP L)).length := by
  have e := laidS_len (S := rollS S (S.gens.set i (g0 + 1, true)) (S.free.take K)) ht (maskP L)
  show (List.set _ _ _).length = _
  rw [List.length_set]; exact e
 have hfl : S.free.take K = S.free.dropLast := by rw [List.dropLast_eq_take, show S.free.length - 1 = K by omega]
 have hsp : S.free = S.free.take K ++ [i] := by
  have := List.take_append_drop K S.free
  rw [List.drop_eq_getElem_cons (by omega), hi, List.drop_eq_nil_of_le (by omega)] at this
  exact this.symm
 refine ⟨⟨w4, ⟨?_, fun j => ?_⟩, fun j x hx => ?_, ?_, ?_⟩, ⟨rfl, rfl, ?_, hlen, hfl, v4, fun j gj hj hgj => ?_⟩⟩
 ·exact h.fr.1.sublist (List.take_sublist _ _)
 ·show j ∈ S.free.take K ↔ ∃ g, (S.gens.set i (g0 + 1, true))[j]? = some (g, false)
  have hnd := h.fr.1
  rw [hsp] at hnd
  have hin : i ∉ S.free.take K := fun hm => by
   have := (List.nodup_append.1 hnd).2.2 i hm i (by simp)
   exact this rfl
  by_cases hj : j = i
  ·subst hj
   rw [List.getElem?_set, if_pos rfl, if_pos hil]
   exact ⟨fun h => absurd h hin, fun ⟨g, e⟩ => by cases e⟩
  ·rw [List.getElem?_set_ne (fun e => hj e.symm), ← h.fr.2 j]
   constructor
   ·intro hm; exact List.mem_of_mem_take hm
   ·intro hm
    rw [hsp] at hm
    rcases List.mem_append.1 hm with hm | hm
    ·exact hm
    ·simp at hm; exact absurd hm hj
 ·have hx : (S.gens.set i (g0 + 1, true))[j]? = some x := hx
  by_cases hj : j = i
  ·subst hj
   rw [List.getElem?_set, if_pos rfl, if_pos hil] at hx
   cases hx
   have := h.gen j _ hg
   simp at this ⊢; omega
  ·rw [List.getElem?_set_ne (fun e => hj e.symm)] at hx
   have := h.gen j x hx
   push_cast; omega
 ·have := addM_len S.masks (maskP L)
  have h2 := h.ml
  show (addM S.masks (maskP L)).length ≤ _
  omega
 ·show (S.gens.set i _).length ≤ 64
  rw [List.length_set]; exact h.g64
 ·show addM S.masks (maskP L) = addM S.masks (maskP L')
  rw [maskP_perm hcs hp hf]
 ·have hgj' : (S.gens.set i (g0 + 1, true))[j]? = some (gj, true) := by rw [List.getElem?_set_ne (fun e => hj e.symm)]; exact hgj
  refine (v5 j gj hj hgj').trans ((v3 j gj hj hgj').trans ((v2 j gj hj hgj').trans rfl))
theorem spawn_at {o : Lab} {w : World} (hD : DeAt w) {b : Nat} {p : Ptrs} {S : SM} (h : StoreP o w b p S) (hDo : o 9 = none) {t : Nat} (hG : GS S t) (ht : t ≤ 10000) (hfree : S.free ≠ [])
  {L : List Part} {a : Option Addr} {c : Nat} (hs : SlIs w a L.length 6 (L.flatMap Part.cells)) (hLb : ∀ k f, a = some ⟨k, f, none⟩ → o k = none) (hn16 : L.length ≤ 64) (hf : ∀ q ∈ L, FitsP S.cs q) (hnt : NoTwice L) :
  Meets Tryz.prog 10 #[ptrV b, .slice a L.length c] w fun v w' => ∃ (i : Nat) (g0 : Int) (L' : List Part) (S' : SM), S.free.getLast? = some i ∧ S.gens[i]? = some (g0, false) ∧ v = .tuple #[entV i (g0 + 1), .nilIface] ∧ L'.Perm L ∧ L'.Pairwise (fun x y => x.comp ≤ y.comp) ∧
   GS S' (t + 1) ∧ Born S S' L' i (g0 + 1) ∧ Turned o w b S' w' := by
 have hlen : 0 < S.free.length := List.length_pos_iff.2 hfree
 obtain ⟨K, hK⟩ : ∃ K, K + 1 = S.free.length := ⟨S.free.length - 1, by omega⟩
 have hKl : K < S.free.length := by omega
 obtain ⟨g0, hg⟩ := (hG.fr.2 _).1 (List.getElem_mem hKl)
 obtain ⟨hlt, hge⟩ := List.getElem?_eq_some_iff.1 hg
 have hb := hG.gen _ _ hg
 have hml := hG.ml
 refine (sSpawn_spec hD h hDo hK (i := S.free[K]) rfl hlt (by rw [hge]; simp at hb ⊢; omega) (by rw [← hG.wf.gs]; exact hlt) (by omega) hG.bnd hs hLb hn16 hf hnt).mono ?_
 rintro v w' ⟨rfl, L', h1, h2, h3⟩
 have hg' : (S.gens[S.free[K]]).1 = g0 := by rw [hge]
 rw [hg'] at h3
 obtain ⟨k1, k2⟩ := hG.spawn h.tle h.good.1 hK rfl hg hf hnt h1 h2
 refine ⟨S.free[K], g0, L', _, ?_, hg, by rw [hg'], h1, h2, k1, k2, h3⟩
 rw [List.getLast?_eq_getElem?, show S.free.length - 1 = K by omega, List.getElem?_eq_getElem hKl]
end
section
theorem filter_one {L : List Part} (hnt : NoTwice L) (c : Int) : (L.filter fun q => decide (q.comp = c)).length ≤ 1 := by
 have h1 : ((L.filter fun q => decide (q.comp = c)).map (·.comp)).Nodup := List.Nodup.sublist (List.Sublist.map _ List.filter_sublist) hnt
 have := h1.length_le_of_subset (l₂ := [c]) (fun x hx => by
  obtain ⟨q, hq, rfl⟩ := List.mem_map.1 hx
  have := (List.mem_filter.1 hq).2
  simpa using this)
 simpa using this
theorem pushC_perm {L L' : List Part} (hp : L.Perm L') (hnt : NoTwice L) (T : TabM) : pushC T L = pushC T L' := by
 unfold pushC
 congr 1
 funext c
 congr 1
 have h1 := filter_one hnt (c : Int)
 have h2 := hp.filter fun q : Part => decide (q.comp = (c : Int))
 generalize L.filter (fun q : Part => decide (q.comp = (c : Int))) = a at *
 generalize L'.filter (fun q : Part => decide (q.comp = (c : Int))) = a' at *
 match a, h1 with
 | [], _ => exact (List.nil_perm.1 h2).symm
 | [x], _ => exact (List.singleton_perm.1 h2).symm ▸ rfl
theorem enterS_perm {S : SM} {n i : Nat} {g : Int} {L L' : List Part} (hn : n < S.tabs.length) (hp : L.Perm L') (hnt : NoTwice L) : enterS S n i g L hn = enterS S n i g L' hn := by
 unfold enterS
 rw [pushC_perm hp hnt]
structure Went (S S' : SM) (L' : List Part) (i : Nat) : Prop where
 gens : S'.gens = S.gens
 cs : S'.cs = S.cs
 masks : S'.masks = addM S.masks (maskP L')
 tabs : S'.tabs.length = S'.masks.length
 free : S'.free = S.free
 parts : partsOf S' i = L'
 others : ∀ j gj, j ≠ i → S.gens[j]? = some (gj, true) → partsOf S' j = partsOf S j
theorem layA_len {S : SM} (h : S.tabs.length ≤ S.masks.length) : (layA S).tabs.length = S.masks.length := by
 simp [layA, layS]; omega
theorem move_at {o : Lab} {w : World} (hD : DeAt w) {b : Nat} {p : Ptrs} {S : SM} {m' : Nat} (h : StoreP o w b p { S with masks := addM S.masks m' }) (hDo : o 9 = none) {t : Nat} (hG : GS S t) (ht0 : S.tabs.length ≤ S.masks.length) (ht : t ≤ 10000)
  {i : Nat} {g : Int} (hg : S.gens[i]? = some (g, true)) {bc : Nat} (hbc : bc < w.heap.size) (hbo : o bc = none) {f : FuncId} {caps : Array Value} {L2 L' : List Part} (hT : Turns w bc f caps (partsOf S i) L2) (hp : L2.Perm L') (hLc : L'.map (·.comp) = (listF m').map (fun c : Nat => (c : Int))) (hm' : maskP L' = m') (hf : ∀ q ∈ L', FitsP S.cs q) :
  Meets Tryz.prog 59 #[ptrV b, entV i g, natV ((addM S.masks m').idxOf m'), .func (.func f) #[] caps] w fun v w' => v = .nilIface ∧ ∃ S', GS S' (t + 1) ∧ Went S S' L' i ∧ Turned o w b S' w' := by
 obtain ⟨w2, v2⟩ := hG.wf.masks ht0 m'
 obtain ⟨w3, v3⟩ := w2.lay ((addM S.masks m').length - S.tabs.length)
 have w3 : WF (layA { S with masks := addM S.masks m' }) := w3
 have hg3 : (layA { S with masks := addM S.masks m' }).gens[i]? = some (g, true) := hg
 have hp3 : partsOf (layA { S with masks := addM S.masks m' }) i = partsOf S i := (v3 i g (fun h => h) hg).trans (v2 i g (fun h => h) hg)
 have ht1 : ({ S with masks := addM S.masks m' } : SM).tabs.length ≤ ({ S with masks := addM S.masks m' } : SM).masks.length := h.tle
 have hlen2 := layA_len ht1
 obtain ⟨n, r, hs, hn, hr, hri, m, gm, hl, hm, hsm⟩ := w3.stand hg3 (fun h => h)
 obtain ⟨w4, v4⟩ := WFe.leave w3 hs hn hr hri hl hm hsm
 have hlen3 : (leaveS (layA { S with masks := addM S.masks m' }) n r m hn).tabs.length = (addM S.masks m').length := by
  show (List.set _ _ _).length = _
  rw [List.length_set]; exact hlen2
 have hnd : (addM S.masks m').idxOf m' < (leaveS (layA { S with masks := addM S.masks m' }) n r m hn).tabs.length := by rw [hlen3]; exact idx_addM_lt _ _
 have hLc' : L'.map (·.comp) = (compsM (leaveS (layA { S with masks := addM S.masks m' }) n r m hn).masks ((addM S.masks m').idxOf m')).map (fun c : Nat => (c : Int)) := by
  show _ = (compsM (addM S.masks m') _).map _
  unfold compsM
  rw [idx_addM]
  exact hLc
 obtain ⟨w5, v5, v6⟩ := WFe.enter w4 hg3 hnd hLc'
 have hL'l : L'.length ≤ 32 := by
  have := congrArg List.length hLc
  simp only [List.length_map] at this
  have := listF_len m'
  omega
 have hnt' : NoTwice L' := by
  unfold NoTwice
  rw [hLc]
  unfold List.Nodup
  rw [List.pairwise_map]
  exact (listF_nodup _).imp (fun h e => h (by omega))
 have hnt2 : NoTwice L2 := (List.Perm.nodup_iff (hp.map _)).2 hnt'
 have hrl := w3.rows_le (List.getElem?_eq_getElem hn)
 have hsp : (layA { S with masks := addM S.masks m' }).spots.length = S.spots.length := rfl
 have hgs := hG.wf.gs
 have hg64 := hG.g64
 have hpe := partsOf_eq hs (List.getElem?_eq_getElem hn)
 have hT' : Turns w bc f caps ((compsM ({ S with masks := addM S.masks m' } : SM).masks n).map (partAt (layA { S with masks := addM S.masks m' }).tabs[n] r)) L2 := by
  have e : (compsM ({ S with masks := addM S.masks m' } : SM).masks n).map (partAt (layA { S with masks := addM S.masks m' }).tabs[n] r) = partsOf S i := by
   rw [← hp3, hpe]; rfl
  rw [e]; exact hT
 have h4r := w4.rows_le (List.getElem?_eq_getElem hnd)
 have hsp4 : (leaveS (layA { S with masks := addM S.masks m' }) n r m hn).spots.length = S.spots.length := by
  show (List.set _ _ _).length = _
  rw [List.length_set]; rfl
 refine (sMove_spec hD h hDo (g := g) (gm := gm) hs hn hr (fun c hc => w3.cols n _ c (List.getElem?_eq_getElem hn) hc) hl hm (by omega) hbc hbo hT' hnd (by rw [hp.length_eq]; omega) (fun q hq => hf q (hp.mem_iff.1 hq)) ?_ ?_ (by omega)).mono ?_
 ·intro q hq
  have hq := hp.mem_iff.1 hq
  have hm2 : q.comp ∈ (listF m').map (fun c : Nat => (c : Int)) := hLc ▸ List.mem_map.2 ⟨q, hq, rfl⟩
  obtain ⟨c, hc, e⟩ := List.mem_map.1 hm2
  refine ⟨c, e.symm, ?_⟩
  show c ∈ compsM (addM S.masks m') _
  unfold compsM
  rw [idx_addM]; exact hc
 ·intro c hc
  rw [w4.cols _ _ c (List.getElem?_eq_getElem hnd) hc, hp.length_eq]
  omega
 ·rintro v w' ⟨rfl, h'⟩
  rw [enterS_perm hnd hp hnt2] at h'
  have hgens : (enterS (leaveS (layA { S with masks := addM S.masks m' }) n r m hn) ((addM S.masks m').idxOf m') i g L' hnd).gens = S.gens := rfl
  refine ⟨rfl, _, ⟨w5, hG.fr, fun j x hx => ?_, ?_, hg64⟩, ⟨rfl, rfl, ?_, ?_, rfl, v5, fun j gj hj hgj => ?_⟩, h'⟩
  ·have := hG.gen j x hx
   push_cast; omega
  ·have := addM_len S.masks m'
   have h2 := hG.ml
   show (addM S.masks m').length ≤ _
   omega
  ·rw [hm']; rfl
  ·show (List.set _ _ _).length = _
   rw [List.length_set]; exact hlen3
  ·exact (v6 j gj hj hgj).trans ((v4 j gj hj hgj).trans ((v3 j gj (fun h => h) hgj).trans (v2 j gj (fun h => h) hgj)))
end
section
attribute [local irreducible] kO kB kStr kInt kN kG kIf kfld kld kldN kst knew kmap kbld kbldS kext kcnv klenStr klen kcap kprt kprtN kbool kint kstr keq kun ksl kix kiv kta kmk kmm ksem ksemU kextf kcallV kcallM kcall kL
theorem comps_mask {cs : List Comp} (hcs : cs.length ≤ 16) {P : List Part} (hf : ∀ q ∈ P, FitsP cs q) {m : Nat} (hm : m < 2 ^ cs.length) (hc : P.map (·.comp) = (listF m).map (fun c : Nat => (c : Int))) : maskP P = m := by
 apply Nat.eq_of_testBit_eq
 intro c
 rw [Bool.eq_iff_iff, maskP_bit cs hcs P hf c]
 constructor
 ·rintro ⟨q, hq, e⟩
  have h1 : q.comp ∈ (listF m).map (fun c : Nat => (c : Int)) := hc ▸ List.mem_map.2 ⟨q, hq, rfl⟩
  obtain ⟨d, hd, e2⟩ := List.mem_map.1 h1
  have : d = c := by omega
  subst this
  exact (listF_mem.1 hd).2
 ·intro hb
  have hcl : c < cs.length := by
   rcases Nat.lt_or_ge c cs.length with h | h
   ·exact h
   ·have : m < 2 ^ c := Nat.lt_of_lt_of_le hm (Nat.pow_le_pow_right (by omega) h)
    rw [Nat.testBit_lt_two_pow this] at hb; cases hb
  have h1 : (c : Int) ∈ P.map (·.comp) := hc ▸ List.mem_map.2 ⟨c, listF_mem.2 ⟨by omega, hb⟩, rfl⟩
  obtain ⟨q, hq, e⟩ := List.mem_map.1 h1
  exact ⟨q, hq, e⟩
theorem parts_ok {o : Lab} {w : World} {b : Nat} {p : Ptrs} {S : SM} (h : StoreP o w b p S) {t : Nat} (hG : GS S t) {i : Nat} {g : Int} (hg : S.gens[i]? = some (g, true)) :
  ∃ n r, S.spots[i]? = some (n, r) ∧ ∃ hn : n < S.tabs.length, ∃ hnm : n < S.masks.length, (∀ c ∈ compsM S.masks n, r < (S.tabs[n].col c).length) ∧ partsOf S i = (compsM S.masks n).map (partAt S.tabs[n] r) ∧ compsM S.masks n = listF S.masks[n] ∧
   (partsOf S i).map (·.comp) = (listF S.masks[n]).map (fun c : Nat => (c : Int)) ∧ (∀ q ∈ partsOf S i, FitsP S.cs q) ∧ maskP (partsOf S i) = S.masks[n] ∧ S.masks[n] < 2 ^ S.cs.length ∧ ∀ c ∈ compsM S.masks n, (partAt S.tabs[n] r c).comp = (c : Int) := by
 obtain ⟨n, r, T, h1, h2, h3⟩ := hG.wf.live i g hg (fun h => h)
 obtain ⟨hn, e⟩ := List.getElem?_eq_some_iff.1 h2
 subst e
 have hr := (List.getElem?_eq_some_iff.1 h3).1
 have hnm : n < S.masks.length := Nat.lt_of_lt_of_le hn h.tle
 have hcol : ∀ c ∈ compsM S.masks n, r < (S.tabs[n].col c).length := fun c hc => by rw [hG.wf.cols n _ c h2 hc]; exact hr
 have hpe := partsOf_eq h1 h2
 have hce : compsM S.masks n = listF S.masks[n] := by unfold compsM; rw [List.getElem?_eq_getElem hnm]
 have hmk := mk_of h _ (List.getElem_mem hnm)
 have hcomp : ∀ c ∈ compsM S.masks n, (partAt S.tabs[n] r c).comp = (c : Int) ∧ (partAt S.tabs[n] r c).clean (wdF S.cs c) := fun c hc => by
  obtain ⟨_, _, _, _, _, h6, _⟩ := (h.tab n hn).col hc
  have := h6 _ (List.getElem_mem (hcol c hc))
  simp only [partAt, List.getElem?_eq_getElem (hcol c hc), Option.getD_some]
  exact this
 have hmap : (partsOf S i).map (·.comp) = (listF S.masks[n]).map (fun c : Nat => (c : Int)) := by
  rw [hpe, List.map_map, hce]
  exact List.map_congr_left fun c hc => (hcomp c (hce ▸ hc)).1
 have hfit : ∀ q ∈ partsOf S i, FitsP S.cs q := fun q hq => by
  rw [hpe] at hq
  obtain ⟨c, hc, rfl⟩ := List.mem_map.1 hq
  obtain ⟨e1, e2⟩ := hcomp c hc
  exact ⟨c, e1, listF_lt hmk (hce ▸ hc), e2⟩
 exact ⟨n, r, h1, hn, hnm, hcol, hpe, hce, hmap, hfit, comps_mask h.good.1 hfit hmk hmap, hmk, fun c hc => (hcomp c hc).1⟩
theorem seg_nth {l : List Value} {o n j : Nat} {cs : List Value} {v : Value} (h : segL l o n = some cs) (hj : cs[j]? = some v) : l[o + j]? = some v := by
 obtain ⟨h1, h2⟩ := segL_spec _ _ _ _ h
 rw [← h2] at hj
 have hjn : j < n := by
  rcases Nat.lt_or_ge j n with h | h
  ·exact h
  ·rw [List.getElem?_eq_none (by simp; omega)] at hj; cases hj
 rw [List.getElem?_take_of_lt hjn, List.getElem?_drop] at hj
 exact hj
theorem eraseIdx_filter {α : Type} (p : α → Bool) : ∀ (l : List α) (k : Nat) (hk : k < l.length), p l[k] = false → (∀ j (hj : j < l.length), j ≠ k → p l[j] = true) → l.eraseIdx k = l.filter p
 | x :: l, 0, _, h1, h2 => by
  have h1 : p x = false := h1
  rw [List.eraseIdx_zero, List.tail_cons, List.filter_cons_of_neg (by simp [h1])]
  symm
  rw [List.filter_eq_self]
  intro a ha
  obtain ⟨j, hj, rfl⟩ := List.mem_iff_getElem.1 ha
  exact h2 (j + 1) (by simp; omega) (by omega)
 | x :: l, k + 1, hk, h1, h2 => by
  have hx : p x = true := h2 0 (by simp) (by omega)
  rw [List.eraseIdx_cons_succ, List.filter_cons_of_pos hx]
  congr 1
  exact eraseIdx_filter p l k (by simpa using hk) h1 fun j hj hjk => h2 (j + 1) (by simp; omega) (by omega)
theorem listF_without {m c : Nat} (hc : c < 32) : listF (andN m (2 ^ c)) = (listF m).filter fun x => decide (x ≠ c) := by
 have e : 4294967295 - 2 ^ c = 2 ^ 32 - (2 ^ c + 1) := by omega
 have hb : 2 ^ c < 2 ^ 32 := Nat.pow_lt_pow_right (by omega) hc
 unfold listF
 rw [List.filter_filter]
 apply List.filter_congr
 intro x hx
 have hx : x < 32 := by simpa using hx
 rw [andN, Nat.testBit_and, e, Nat.testBit_two_pow_sub_succ (by omega), Nat.testBit_two_pow]
 by_cases h : x = c
 ·subst h; simp
 ·have : ¬ c = x := fun e => h e.symm
  simp [h, hx, this]
theorem without_turns {w : World} {bc : Nat} {c : Int} (hb : blk w bc = some (.cells #[.int .i64 c] 3)) {L : List Part} {k : Nat} (hk : k < L.length) (hkc : (L[k]).comp = c) (hone : ∀ j (hj : j < L.length), j ≠ k → (L[j]).comp ≠ c) (hlen : L.length ≤ 1000000) :
  Turns w bc 62 #[.pointer (some ⟨bc, 0, none⟩)] L (L.eraseIdx k) := by
 intro w1 sv hsz hbc hv hO
 have hlb := lt_of_blk hb
 show Meets Tryz.prog 62 #[sv, .pointer (some ⟨bc, 0, none⟩)] w1 _
 refine f62_ok ?_
 unfold f62
 refine kcall_of (deleteP_spec hO (bc := bc) (c := c) (hbc.trans hb) (fun e => by have := hv _ e; omega) hk hkc hone hlen) ?_
 rintro v w2 ⟨h1, h2, h3⟩
 exact ⟨h1, h2, fun k hk => .inl (h3 k hk)⟩
theorem remove_at {o : Lab} {w : World} (hD : DeAt w) {b : Nat} {p : Ptrs} {S : SM} (h : StoreP o w b p S) (hDo : o 9 = none) {t : Nat} (hG : GS S t) (ht : t ≤ 10000) {i : Nat} {g : Int} (hg : S.gens[i]? = some (g, true)) {c : Nat} {q : Part} (hq : q ∈ partsOf S i) (hqc : q.comp = (c : Int)) :
  Meets Tryz.prog 14 #[ptrV b, entV i g, .int .i64 c] w fun v w' => v = .tuple #[.agg q.cells.toArray, .nilIface] ∧ ∃ S', GS S' (t + 1) ∧ Went S S' ((partsOf S i).filter fun x => decide (x.comp ≠ (c : Int))) i ∧ Turned o w b S' w' := by
 obtain ⟨n, r, hsp, hn, hnm, hcol, hpe, hce, hmap, hfit, hmk, hmlt, hpc⟩ := parts_ok h hG hg
 have hcs := h.good.1
 have hp16 : 2 ^ S.cs.length ≤ 2 ^ 16 := Nat.pow_le_pow_right (by omega) hcs
 have hml := hG.ml
 have hgl := (List.getElem?_eq_some_iff.1 hg).1
 have hgs := hG.wf.gs
 have hcm : c ∈ compsM S.masks n := by
  rw [hpe] at hq
  obtain ⟨d, hd, rfl⟩ := List.mem_map.1 hq
  have := hpc d hd
  have : d = c := by omega
  subst this; exact hd
 have hqe : q = (S.tabs[n].col c)[r]'(hcol c hcm) := by
  rw [hpe] at hq
  obtain ⟨d, hd, rfl⟩ := List.mem_map.1 hq
  have := hpc d hd
  have : d = c := by omega
  subst this
  simp only [partAt, List.getElem?_eq_getElem (hcol d hcm), Option.getD_some]
 have hc16 : c < S.cs.length := listF_lt hmlt (hce ▸ hcm)
 have hc32 : c < 32 := by omega
 obtain ⟨k, hk, hkc⟩ : ∃ k, ∃ hk : k < (partsOf S i).length, ((partsOf S i)[k]).comp = (c : Int) := by
  obtain ⟨k, hk, e⟩ := List.mem_iff_getElem.1 hq
  exact ⟨k, hk, by rw [e]; exact hqc⟩
 have hnd : ((partsOf S i).map (·.comp)).Nodup := by
  rw [hmap]
  unfold List.Nodup
  rw [List.pairwise_map]
  exact (listF_nodup _).imp (fun h e => h (by omega))
 have hone : ∀ j (hj : j < (partsOf S i).length), j ≠ k → ((partsOf S i)[j]).comp ≠ (c : Int) := fun j hj hjk e => by
  have : ((partsOf S i).map (·.comp))[j]'(by simpa using hj) = ((partsOf S i).map (·.comp))[k]'(by simpa using hk) := by
   rw [List.getElem_map, List.getElem_map, e, hkc]
  exact hjk ((List.getElem_inj hnd).1 this)
 have hL2 : (partsOf S i).eraseIdx k = (partsOf S i).filter fun x => decide (x.comp ≠ (c : Int)) := eraseIdx_filter (fun x => decide (x.comp ≠ (c : Int))) _ k hk (by simp [hkc]) (fun j hj hjk => by simpa using hone j hj hjk)
 have hlen : (partsOf S i).length ≤ 32 := by
  have := congrArg List.length hmap
  simp only [List.length_map] at this
  have := listF_len S.masks[n]
  omega
 have hLc : ((partsOf S i).filter fun x => decide (x.comp ≠ (c : Int))).map (·.comp) = (listF (andN S.masks[n] (2 ^ c))).map (fun c : Nat => (c : Int)) := by
  rw [listF_without hc32]
  have e1 : ((partsOf S i).filter fun x => decide (x.comp ≠ (c : Int))).map (·.comp) = ((partsOf S i).map (·.comp)).filter fun x => decide (x ≠ (c : Int)) := by
   rw [List.filter_map]; rfl
  rw [e1, hmap, List.filter_map]
  congr 1
  apply List.filter_congr
  intro x _
  simp
  omega
 have hfit' : ∀ x ∈ (partsOf S i).filter (fun x => decide (x.comp ≠ (c : Int))), FitsP S.cs x := fun x hx => hfit x (List.mem_filter.1 hx).1
 have hm'lt : andN S.masks[n] (2 ^ c) < 2 ^ S.cs.length := by
  have : andN S.masks[n] (2 ^ c) ≤ S.masks[n] := Nat.and_le_left
  omega
 have hm' := comps_mask hcs hfit' hm'lt hLc
 rw [ptrV]
 refine f14_ok ?_
 unfold f14
 refine knew_of fun w2 hm2 hs2 hb2 => ?_
 have hb2 : blk w2 w.heap.size = some (.cells #[.int .i64 i, .int .i64 g] 37) := hb2
 refine knew_of fun w4 hm4 hs4 hb4 => ?_
 have hb4 : blk w4 w2.heap.size = some (.cells #[.int .i64 c] 3) := hb4
 refine knew_of fun w6 hm6 hs6 hb6 => ?_
 have he6 := hm6.get (hm4.get hb2 (fun h => h)) (fun h => h)
 have hc6 := hm6.get hb4 (fun h => h)
 have m6 : Same w w6 := (hm2.trans hm4).trans hm6
 have hP6 := h.cut m6
 have hcutn : ∀ k, w.heap.size ≤ k → cutL o w.heap.size k = none := fun k hk => cutL_none hk
 have hDo0 : cutL o w.heap.size 9 = none := by
  unfold cutL; split
  ·exact hDo
  ·rfl
 repeat (first | refine kN_at ?_ | refine kB_at ?_ | refine kfld_of ?_ | refine kext_at rfl ?_ | refine kld_at he6 rfl ?_ | refine kld_at hc6 rfl ?_ | refine kldN_at he6 rfl (by omega) ?_ | refine kldN_at hc6 rfl (by omega) ?_ | refine kG_of (by first | exact rfl | omega) ?_ | refine klen_at ?_ | refine eql_at ?_ | refine neq_at ?_ | refine lss_at ?_ | refine leq_at ?_ | refine gtr_at ?_ | refine geq_at ?_ | refine add_at (by omega) (by omega) ?_ | refine sub_at (by omega) (by omega) ?_ | refine not_at ?_ | refine kO_at ?_ | refine kprt_at rfl ?_ | refine kprtN_at rfl ?_ | refine kcap_at ?_ | refine klenStr_at ?_ | refine kN_iat ?_ | refine kN_fat ?_ | refine kIf_T (by first | exact rfl | exact decT (by omega) | exact notT (decF (by omega))) ?_ | refine kIf_F (by first | exact rfl | exact decF (by omega) | exact notF (decT (by omega))) ?_)
 refine kcall_of (sGet_spec hP6 hg hsp hn hcm (hcol c hcm)) ?_
 rintro v w10 ⟨rfl, h10⟩
 rw [← hqe]
 repeat (first | refine kN_at ?_ | refine kB_at ?_ | refine kfld_of ?_ | refine kext_at rfl ?_ | refine kG_of (by first | exact rfl | omega) ?_ | refine klen_at ?_ | refine eql_at ?_ | refine neq_at ?_ | refine lss_at ?_ | refine leq_at ?_ | refine gtr_at ?_ | refine geq_at ?_ | refine add_at (by omega) (by omega) ?_ | refine sub_at (by omega) (by omega) ?_ | refine not_at ?_ | refine kO_at ?_ | refine kprt_at rfl ?_ | refine kprtN_at rfl ?_ | refine kcap_at ?_ | refine klenStr_at ?_ | refine kN_iat ?_ | refine kN_fat ?_ | refine kIf_T (by first | exact rfl | exact decT (by omega) | exact notT (decF (by omega))) ?_ | refine kIf_F (by first | exact rfl | exact decF (by omega) | exact notF (decT (by omega))) ?_)
 refine knew_of fun w14 h14 hs14 hb14 => ?_
 refine kst_of (vs := q.cells) hb14 rfl rfl rfl (by simp) (by simp [Part.cells]) fun w15 h15 hs15 hb15 => ?_
 have hb15 : blk w15 w10.heap.size = some (.cells q.cells.toArray 47) := hb15
 rw [keq_nil_nil' ifErr]
 refine kB_at ?_
 refine kIf_F rfl ?_
 unfold f14_0
 have hsz10 := h10.size
 have m15 : Same w6 w15.drew := (h10.trans h14).trans' (h15.drew.mono fun k _ e => .inr (by omega))
 have hq15 : blk w15.drew w10.heap.size = some (.cells q.cells.toArray 47) := hb15
 have hs15 : w15.drew.heap.size = w10.heap.size + 1 := by show w15.heap.size = _; omega
 generalize w15.drew = wa at *
 have hPa := hP6.same m15
 have hba := hPa.here
 obtain ⟨bs, csc, arr, tt, es, hbs, s1, s2, s3⟩ := hPa.spots.viewF (F := spotC) (sz := 2) (fun _ => rfl) (by omega) (show 0 < S.spots.length by omega)
 rw [es] at hba
 have hea := m15.get he6 (fun h => h)
 have hca := m15.get hc6 (fun h => h)
 have hra := m15.get hb6 (fun h => h)
 obtain ⟨hil, hsi⟩ := List.getElem?_eq_some_iff.1 hsp
 have hsii := s3 i hil
 rw [hsi] at hsii
 repeat (first | refine kN_at ?_ | refine kB_at ?_ | refine kfld_of ?_ | refine kext_at rfl ?_ | refine kld_at hba rfl ?_ | refine kld_at hea rfl ?_ | refine kldN_at hba rfl (by omega) ?_ | refine kldN_at hea rfl (by omega) ?_ | refine kG_of (by first | exact rfl | omega) ?_ | refine klen_at ?_ | refine eql_at ?_ | refine neq_at ?_ | refine lss_at ?_ | refine leq_at ?_ | refine gtr_at ?_ | refine geq_at ?_ | refine add_at (by omega) (by omega) ?_ | refine sub_at (by omega) (by omega) ?_ | refine not_at ?_ | refine kO_at ?_ | refine kprt_at rfl ?_ | refine kprtN_at rfl ?_ | refine kcap_at ?_ | refine klenStr_at ?_ | refine kN_iat ?_ | refine kN_fat ?_ | refine kIf_T (by first | exact rfl | exact decT (by omega) | exact notT (decF (by omega))) ?_ | refine kIf_F (by first | exact rfl | exact decF (by omega) | exact notF (decT (by omega))) ?_)
 rw [kix_slice]
 refine kG_of (by omega) ?_
 rw [add_mk, Nat.zero_add, Int.toNat_natCast]
 refine kfld_of ?_
 refine kld_of (v := .int .i64 n) hbs (by have := seg_nth hsii (j := 0) rfl; simpa [natV] using this) ?_
 refine kG_of rfl ?_
 repeat (first | refine kN_at ?_ | refine kB_at ?_ | refine kfld_of ?_ | refine kext_at rfl ?_ | refine kld_at hca rfl ?_ | refine kldN_at hca rfl (by omega) ?_ | refine kG_of (by first | exact rfl | omega) ?_ | refine klen_at ?_ | refine eql_at ?_ | refine neq_at ?_ | refine lss_at ?_ | refine leq_at ?_ | refine gtr_at ?_ | refine geq_at ?_ | refine add_at (by omega) (by omega) ?_ | refine sub_at (by omega) (by omega) ?_ | refine not_at ?_ | refine kO_at ?_ | refine kprt_at rfl ?_ | refine kprtN_at rfl ?_ | refine kcap_at ?_ | refine klenStr_at ?_ | refine kN_iat ?_ | refine kN_fat ?_ | refine kIf_T (by first | exact rfl | exact decT (by omega) | exact notT (decF (by omega))) ?_ | refine kIf_F (by first | exact rfl | exact decF (by omega) | exact notF (decT (by omega))) ?_)
 refine kcall_of (withoutAt_spec hPa.atlas n hnm c hc16 (by omega)) ?_
 rintro v w32 ⟨rfl, o2, hl2, hA2, hm32⟩
 have hP32 := hPa.setAtlas (by omega) hl2 hm32 hA2
 repeat (first | refine kN_at ?_ | refine kB_at ?_ | refine kfld_of ?_ | refine kext_at rfl ?_ | refine kG_of (by first | exact rfl | omega) ?_ | refine klen_at ?_ | refine eql_at ?_ | refine neq_at ?_ | refine lss_at ?_ | refine leq_at ?_ | refine gtr_at ?_ | refine geq_at ?_ | refine add_at (by omega) (by omega) ?_ | refine sub_at (by omega) (by omega) ?_ | refine not_at ?_ | refine kO_at ?_ | refine kprt_at rfl ?_ | refine kprtN_at rfl ?_ | refine kcap_at ?_ | refine klenStr_at ?_ | refine kN_iat ?_ | refine kN_fat ?_ | refine kIf_T (by first | exact rfl | exact decT (by omega) | exact notT (decF (by omega))) ?_ | refine kIf_F (by first | exact rfl | exact decF (by omega) | exact notF (decT (by omega))) ?_)
 rw [keq_nil_nil' ifErr]
 refine kB_at ?_
 refine kIf_F rfl ?_
 unfold f14_1
 have hsz2 := hm2.size
 have hsz32 := hm32.size
 have hu0 : ∀ k, w.heap.size ≤ k → k < wa.heap.size → o2 k = none := fun k h1 h2 => by rw [hl2 k h2]; exact hcutn k h1
 have hFu : ∀ {T : Tag → Prop} k, w.heap.size ≤ k → ¬ FP (cutL o w.heap.size) T k := fun k hk ⟨t, e1, _⟩ => by rw [hcutn k hk] at e1; cases e1
 have md : Same w32 w32.drew := (Mod.refl (fun _ => False) _).drew
 have hq32 : blk w32.drew w10.heap.size = _ := hm32.get hq15 (hFu _ (by omega))
 have he32 : blk w32.drew w.heap.size = _ := hm32.get hea (hFu _ (by omega))
 have hc32' : blk w32.drew w2.heap.size = _ := hm32.get hca (hFu _ (by omega))
 have hr32 : blk w32.drew w4.heap.size = _ := hm32.get hra (hFu _ (by omega))
 have hPc := hP32.frame md (fun _ _ _ h => h) (LabEq.cut w32 o2)
 have hu2 : ∀ k, w.heap.size ≤ k → k < wa.heap.size → cutL o2 w32.heap.size k = none := fun k h1 h2 => by
  unfold cutL; rw [if_pos (by omega)]; exact hu0 k h1 h2
 have hDlt := hD.lt
 have hDc : cutL o2 w32.heap.size 9 = none := by
  have := m6.size
  have := m15.size
  unfold cutL
  rw [if_pos (by omega), hl2 _ (by omega)]
  exact hDo0
 have hD32 : DeAt w32 := ((hD.same m6).same m15).mod hm32 fun ⟨t, e1, _⟩ => by rw [hDo0] at e1; cases e1
 have hD32 : DeAt w32.drew := hD32.same md
 have hm32c := hl2.trans (LabEq.cut w32 o2) hm32.size
 have hs32 : w32.drew.heap.size = w32.heap.size := rfl
 generalize hocd : cutL o2 w32.heap.size = oc at *
 generalize w32.drew = wb at *
 repeat (first | refine kN_at ?_ | refine kB_at ?_ | refine kfld_of ?_ | refine kext_at rfl ?_ | refine kld_at hq32 rfl ?_ | refine kld_at he32 rfl ?_ | refine kldN_at hq32 rfl (by omega) ?_ | refine kldN_at he32 rfl (by omega) ?_ | refine kG_of (by first | exact rfl | omega) ?_ | refine klen_at ?_ | refine eql_at ?_ | refine neq_at ?_ | refine lss_at ?_ | refine leq_at ?_ | refine gtr_at ?_ | refine geq_at ?_ | refine add_at (by omega) (by omega) ?_ | refine sub_at (by omega) (by omega) ?_ | refine not_at ?_ | refine kO_at ?_ | refine kprt_at rfl ?_ | refine kprtN_at rfl ?_ | refine kcap_at ?_ | refine klenStr_at ?_ | refine kN_iat ?_ | refine kN_fat ?_ | refine kIf_T (by first | exact rfl | exact decT (by omega) | exact notT (decF (by omega))) ?_ | refine kIf_F (by first | exact rfl | exact decF (by omega) | exact notF (decT (by omega))) ?_)
 refine kcall_of (move_at hD32 hPc hDc hG h.tle ht hg (bc := w2.heap.size) (by omega) (hu2 _ (by omega) (by omega)) (without_turns hc32' hk hkc hone (by omega)) (by rw [hL2]) hLc hm' hfit') ?_
 rintro v w43 ⟨rfl, S', hG', hW, hTu⟩
 obtain ⟨o5, p5, hl5, hP5, hm5, hc5⟩ := id hTu
 have hF5 : ∀ {T : Tag → Prop} k, w.heap.size ≤ k → k < wa.heap.size → ¬ FP oc T k := fun k h1 h2 ⟨t, e1, _⟩ => by rw [hu2 k h1 h2] at e1; cases e1
 have hq43 := hm5.get hq32 (hF5 _ (by omega) (by omega))
 have hr43 := hm5.get hr32 (hF5 _ (by omega) (by have := m15.size; omega))
 refine kG_of (kldN_at hq43 rfl (by omega) ⟨rfl, rfl⟩) ?_
 refine kst_of (vs := q.cells) hr43 rfl rfl rfl (by simp) (by simp [Part.cells]) fun w44 h44 hs44 hb44 => ?_
 have hb44 : blk w44 w4.heap.size = some (.cells q.cells.toArray 47) := hb44
 repeat (first | refine kN_at ?_ | refine kB_at ?_ | refine kfld_of ?_ | refine kext_at rfl ?_ | refine kld_at hb44 rfl ?_ | refine kldN_at hb44 rfl (by omega) ?_ | refine kG_of (by first | exact rfl | omega) ?_ | refine klen_at ?_ | refine eql_at ?_ | refine neq_at ?_ | refine lss_at ?_ | refine leq_at ?_ | refine gtr_at ?_ | refine geq_at ?_ | refine add_at (by omega) (by omega) ?_ | refine sub_at (by omega) (by omega) ?_ | refine not_at ?_ | refine kO_at ?_ | refine kprt_at rfl ?_ | refine kprtN_at rfl ?_ | refine kcap_at ?_ | refine klenStr_at ?_ | refine kN_iat ?_ | refine kN_fat ?_ | refine kIf_T (by first | exact rfl | exact decT (by omega) | exact notT (decF (by omega))) ?_ | refine kIf_F (by first | exact rfl | exact decF (by omega) | exact notF (decT (by omega))) ?_)
 refine ⟨rfl, S', hG', hW, ?_⟩
 refine Turned.wrap m6 ?_ (h44.mono fun k _ e => by subst e; omega)
 refine Turned.seq (o1 := cutL o w.heap.size) (w1 := w6) (LabEq.refl _ _) (Mod.refl _ _) m15 ?_
 exact Turned.seq (o1 := oc) (w1 := w32) hm32c (hm32.mono fun k _ hk => FP.mono (fun _ _ => trivial) hk) md hTu
end
section
attribute [local irreducible] kO kB kStr kInt kN kG kIf kfld kld kldN kst knew kmap kbld kbldS kext kcnv klenStr klen kcap kprt kprtN kbool kint kstr keq kun ksl kix kiv kta kmk kmm ksem ksemU kextf kcallV kcallM kcall kL
end
section
attribute [local irreducible] kO kB kStr kInt kN kG kIf kfld kld kldN kst knew kmap kbld kbldS kext kcnv klenStr klen kcap kprt kprtN kbool kint kstr keq kun ksl kix kiv kta kmk kmm ksem ksemU kextf kcallV kcallM kcall kL
end
section
def Just (L : List (Int × Int)) (P : Nat → Int → Prop) : Prop := L.Nodup ∧ L.Pairwise (fun x y => x.1 ≤ y.1) ∧ ∀ e, e ∈ L ↔ ∃ (i : Nat) (g : Int), e = ((i : Int), g) ∧ P i g
end
section
def putS (S : SM) (n r c : Nat) (q : Part) (hn : n < S.tabs.length) : SM := { S with tabs := S.tabs.set n ⟨S.tabs[n].rows, updC S.tabs[n].col c ((S.tabs[n].col c).set r q)⟩ }
structure PutS (S S' : SM) (i c : Nat) (q : Part) : Prop where
 gens : S'.gens = S.gens
 cs : S'.cs = S.cs
 masks : S'.masks = S.masks
 tabs : S'.tabs.length = S.tabs.length
 free : S'.free = S.free
 parts : partsOf S' i = (partsOf S i).map fun x => if x.comp = (c : Int) then q else x
 others : ∀ j gj, j ≠ i → S.gens[j]? = some (gj, true) → partsOf S' j = partsOf S j
theorem putS_tabs {S : SM} {n r c : Nat} {q : Part} (hn : n < S.tabs.length) (k : Nat) : (putS S n r c q hn).tabs[k]? = if k = n then some ⟨S.tabs[n].rows, updC S.tabs[n].col c ((S.tabs[n].col c).set r q)⟩ else S.tabs[k]? := by
 unfold putS
 rw [List.getElem?_set]
 by_cases h : n = k
 ·subst h; rw [if_pos rfl, if_pos hn, if_pos rfl]
 ·rw [if_neg h, if_neg (fun e => h e.symm)]
theorem GS.put {S : SM} {t : Nat} (h : GS S t) {i : Nat} {g : Int} (hg : S.gens[i]? = some (g, true)) {n r : Nat} (hs : S.spots[i]? = some (n, r)) (hn : n < S.tabs.length) {c : Nat} (hc : c ∈ compsM S.masks n) (hr : r < (S.tabs[n].col c).length)
  (hpc : ∀ d ∈ compsM S.masks n, (partAt S.tabs[n] r d).comp = (d : Int)) (q : Part) :
  GS (putS S n r c q hn) t ∧ PutS S (putS S n r c q hn) i c q := by
 have hTn : S.tabs[n]? = some S.tabs[n] := List.getElem?_eq_getElem hn
 have hT' := putS_tabs (r := r) (c := c) (q := q) hn
 have hsp : (putS S n r c q hn).spots = S.spots := rfl
 have hcol : ∀ d, ((updC S.tabs[n].col c ((S.tabs[n].col c).set r q)) d).length = (S.tabs[n].col d).length := fun d => by
  by_cases hd : d = c
  ·subst hd; rw [updC_same, List.length_set]
  ·rw [updC_ne _ hd]
 refine ⟨⟨⟨h.wf.gs, fun j gj hgj _ => ?_, fun n' T r' e hT hre => ?_, fun n' T d hT hd => ?_⟩, h.fr, h.gen, h.ml, h.g64⟩, ⟨rfl, rfl, rfl, by simp [putS], rfl, ?_, fun j gj hj hgj => ?_⟩⟩
 ·obtain ⟨n', r', T', h1, h2, h3⟩ := h.wf.live j gj hgj (fun h => h)
  by_cases hnn : n' = n
  ·subst hnn
   rw [hTn] at h2; cases h2
   exact ⟨n', r', _, h1, (hT' n').trans (if_pos rfl), h3⟩
  ·exact ⟨n', r', T', h1, by rw [hT', if_neg hnn]; exact h2, h3⟩
 ·rw [hT'] at hT
  by_cases hnn : n' = n
  ·subst hnn
   rw [if_pos rfl] at hT
   cases hT
   exact h.wf.rows n' _ r' e hTn hre
  ·rw [if_neg hnn] at hT
   exact h.wf.rows n' T r' e hT hre
 ·rw [hT'] at hT
  by_cases hnn : n' = n
  ·subst hnn
   rw [if_pos rfl] at hT
   cases hT
   show (updC _ _ _ d).length = _
   rw [hcol d]
   exact h.wf.cols n' _ d hTn hd
  ·rw [if_neg hnn] at hT
   exact h.wf.cols n' T d hT hd
 ·rw [partsOf_eq hs hTn, partsOf_eq (S := putS S n r c q hn) hs (by rw [hT', if_pos rfl]), List.map_map]
  refine List.map_congr_left fun d hd => ?_
  have e := hpc d hd
  show ((updC S.tabs[n].col c ((S.tabs[n].col c).set r q) d)[r]?).getD _ = if (partAt S.tabs[n] r d).comp = (c : Int) then q else partAt S.tabs[n] r d
  by_cases hdc : d = c
  ·subst hdc
   rw [if_pos e, updC_same, List.getElem?_set, if_pos rfl, if_pos hr]; rfl
  ·rw [if_neg (by omega), updC_ne _ hdc]; rfl
 ·obtain ⟨n', r', T', h1, h2, h3⟩ := h.wf.live j gj hgj (fun h => h)
  by_cases hnn : n' = n
  ·subst hnn
   rw [hTn] at h2; cases h2
   have hrr : r' ≠ r := fun e => by
    subst e
    obtain ⟨n2, r2, T2, k1, k2, k3⟩ := h.wf.live i g hg (fun h => h)
    rw [hs] at k1; cases k1
    rw [hTn] at k2; cases k2
    rw [h3] at k3
    simp at k3; omega
   rw [partsOf_eq h1 hTn, partsOf_eq (S := putS S n' r c q hn) h1 (by rw [hT', if_pos rfl])]
   refine List.map_congr_left fun d hd => ?_
   show ((updC S.tabs[n'].col c ((S.tabs[n'].col c).set r q) d)[r']?).getD _ = ((S.tabs[n'].col d)[r']?).getD _
   by_cases hdc : d = c
   ·subst hdc
    rw [updC_same, List.getElem?_set_ne (fun e => hrr e.symm)]
   ·rw [updC_ne _ hdc]
  ·rw [partsOf_eq h1 h2, partsOf_eq (S := putS S n r c q hn) h1 (by rw [hT', if_neg hnn]; exact h2)]; rfl
theorem part_at {o : Lab} {w : World} {b : Nat} {p : Ptrs} {S : SM} (h : StoreP o w b p S) {t : Nat} (hG : GS S t) {i : Nat} {g : Int} (hg : S.gens[i]? = some (g, true)) {c : Nat} {q : Part} (hq : q ∈ partsOf S i) (hqc : q.comp = (c : Int)) :
  ∃ n r, S.spots[i]? = some (n, r) ∧ ∃ hn : n < S.tabs.length, ∃ hcm : c ∈ compsM S.masks n, ∃ hr : r < (S.tabs[n].col c).length, (S.tabs[n].col c)[r] = q ∧ ∀ d ∈ compsM S.masks n, (partAt S.tabs[n] r d).comp = (d : Int) := by
 obtain ⟨n, r, hsp, hn, hnm, hcol, hpe, hce, hmap, hfit, hmk, hmlt, hpc⟩ := parts_ok h hG hg
 rw [hpe] at hq
 obtain ⟨d, hd, rfl⟩ := List.mem_map.1 hq
 have hdc : d = c := by have := hpc d hd; omega
 subst hdc
 refine ⟨n, r, hsp, hn, hd, hcol d hd, ?_, hpc⟩
 simp only [partAt, List.getElem?_eq_getElem (hcol d hd), Option.getD_some]
theorem get_at {o : Lab} {w : World} {b : Nat} {p : Ptrs} {S : SM} (h : StoreP o w b p S) {t : Nat} (hG : GS S t) {i : Nat} {g : Int} (hg : S.gens[i]? = some (g, true)) {c : Nat} {q : Part} (hq : q ∈ partsOf S i) (hqc : q.comp = (c : Int)) :
  Meets Tryz.prog 37 #[ptrV b, entV i g, .int .i64 c] w fun v w' => v = .tuple #[.agg q.cells.toArray, .nilIface] ∧ Same w w' := by
 obtain ⟨n, r, hsp, hn, hcm, hr, rfl, _⟩ := part_at h hG hg hq hqc
 exact sGet_spec h hg hsp hn hcm hr
end
section
def f43_3 (x1 x3 x18 x19 : Value) (J5 : Value → World → Prop) (Q : PQ) (w : World) : Prop :=
 kint .i64 .add x19 (.int .i64 1) fun v24 =>
 J5 v24 w
def f43_2 (x1 x3 x18 x19 : Value) (J5 : Value → World → Prop) (Q : PQ) (w : World) : Prop :=
 kldN 2 x1 w fun v21 =>
 kcall Tryz.prog 100 #[x3, v21, x19] w fun v22 w23 =>
 f43_3 x1 x3 x18 x19 J5 Q w23
def f43_8 (x1 x3 x37 x38 : Value) (J12 : Value → World → Prop) (Q : PQ) (w : World) : Prop :=
 kint .i64 .add x38 (.int .i64 1) fun v43 =>
 J12 v43 w
def f43_7 (x1 x3 x37 x38 : Value) (J12 : Value → World → Prop) (Q : PQ) (w : World) : Prop :=
 kldN 2 x1 w fun v40 =>
 kcall Tryz.prog 101 #[x3, v40, x38] w fun v41 w42 =>
 f43_8 x1 x3 x37 x38 J12 Q w42
def f43_9 (x3 : Value) (Q : PQ) (w : World) : Prop :=
 kN x3 <|
 kfld 0 x3 fun v44 =>
 kld v44 w fun v45 =>
 kcall Tryz.prog 102 #[v45] w fun v46 w47 =>
 Q v46 w47
def f43_6 (x38 x1 x3 x37 : Value) (J12 : Value → World → Prop) (Q : PQ) (w : World) : Prop :=
 kint .i64 .lss x38 x37 fun v39 =>
 kB v39 fun b48 => kIf b48
 (f43_7 x1 x3 x37 x38 J12 Q w)
 (f43_9 x3 Q w)
def f43_5 (x1 x3 : Value) (Q : PQ) (w : World) : Prop :=
 kfld 1 x1 fun v35 =>
 kld v35 w fun v36 =>
 klen v36 fun v37 =>
 kL fun (I : Value → World → Prop) (μ : Value → World → Nat) => I (.int .i64 0) w ∧ ∀ (x38 : Value) (w1 : World), I x38 w1 →
 f43_6 x38 x1 x3 v37 (fun y38 w2 => I y38 w2 ∧ μ y38 w2 < μ x38 w1) Q w1
def f43_4 (x1 x3 : Value) (Q : PQ) (w : World) : Prop :=
 kfld 1 x1 fun v25 =>
 kld v25 w fun v26 =>
 klen v26 fun v27 =>
 kint .i64 .gtr v27 (.int .i64 8) fun v29 =>
 kB v29 fun b49 => kIf b49
 (kld (.pointer (some ⟨6, 0, none⟩)) w fun v30 =>
 kbldS [(.string ⟨#[]⟩)] 1 [(0, 1, (.string ⟨#[114, 101, 115, 111, 117, 114, 99, 101, 115]⟩))] 9 w fun v31 w32 =>
 kcall Tryz.prog 99 #[x3, v30, v31] w32 fun v33 w34 =>
 f43_5 x1 x3 Q w34)
 (f43_5 x1 x3 Q w)
def f43_1 (x19 x1 x3 x18 : Value) (J5 : Value → World → Prop) (Q : PQ) (w : World) : Prop :=
 kint .i64 .lss x19 x18 fun v20 =>
 kB v20 fun b50 => kIf b50
 (f43_2 x1 x3 x18 x19 J5 Q w)
 (f43_4 x1 x3 Q w)
def f43_0 (x1 x3 : Value) (Q : PQ) (w : World) : Prop :=
 kfld 0 x1 fun v16 =>
 kld v16 w fun v17 =>
 klen v17 fun v18 =>
 kL fun (I : Value → World → Prop) (μ : Value → World → Nat) => I (.int .i64 0) w ∧ ∀ (x19 : Value) (w1 : World), I x19 w1 →
 f43_1 x19 x1 x3 v18 (fun y19 w2 => I y19 w2 ∧ μ y19 w2 < μ x19 w1) Q w1
def f43 (x0 : Value) (Q : PQ) (w : World) : Prop :=
 knew (Value.cells x0) 33 w fun v1 w2 =>
 kbld [.slice none 0 0] [] fun v3 =>
 knew (Value.cells v3) 180 w2 fun v4 w5 =>
 kfld 0 v1 fun v6 =>
 kld v6 w5 fun v7 =>
 klen v7 fun v8 =>
 kint .i64 .gtr v8 (.int .i64 16) fun v10 =>
 kB v10 fun b51 => kIf b51
 (kld (.pointer (some ⟨6, 0, none⟩)) w5 fun v11 =>
 kbldS [(.string ⟨#[]⟩)] 1 [(0, 1, (.string ⟨#[99, 111, 109, 112, 111, 110, 101, 110, 116, 115]⟩))] 9 w5 fun v12 w13 =>
 kcall Tryz.prog 99 #[v4, v11, v12] w13 fun v14 w15 =>
 f43_0 v1 v4 Q w15)
 (f43_0 v1 v4 Q w5)
theorem f43_ok {x0 : Value} {Q : PQ} {w : World} (h : f43 x0 Q w) : Meets Tryz.prog 43 #[x0] w Q :=
 sound' (c := Tryz.f43.body.get rfl) [(5, [19]), (12, [38])] Tryz.func43 rfl rfl (args := [x0]) rfl (by kernel_rfl) h
def f100_1 (x0 x6 x9 x35 : Value) (Q : PQ) (w : World) : Prop :=
 kB x35 fun b47 => kIf b47
 (kld (.pointer (some ⟨4, 0, none⟩)) w fun v32 =>
 kbldS [(.string ⟨#[]⟩)] 3 [(0, 1, (.string ⟨#[99, 111, 109, 112, 111, 110, 101, 110, 116, 115]⟩)), (1, 1, x9), (2, 1, (.string ⟨#[119, 105, 100, 116, 104]⟩))] 9 w fun v33 w34 =>
 kcall Tryz.prog 99 #[x0, v32, v33] w34 fun v35 w36 =>
 Q (.tuple #[]) w36)
 (kldN 7 x6 w fun v37 =>
 kcall Tryz.prog 146 #[v37] w fun v38 w39 =>
 kun .not (some .bool) v38 fun v40 =>
 kB v40 fun b46 => kIf b46
 (kld (.pointer (some ⟨4, 0, none⟩)) w39 fun v41 =>
 kbldS [(.string ⟨#[]⟩)] 3 [(0, 1, (.string ⟨#[99, 111, 109, 112, 111, 110, 101, 110, 116, 115]⟩)), (1, 1, x9), (2, 1, (.string ⟨#[100, 101, 102, 97, 117, 108, 116]⟩))] 9 w39 fun v42 w43 =>
 kcall Tryz.prog 99 #[x0, v41, v42] w43 fun v44 w45 =>
 Q (.tuple #[]) w45)
 (Q (.tuple #[]) w39))
def f100_0 (x0 x2 x6 : Value) (Q : PQ) (w : World) : Prop :=
 kcall Tryz.prog 145 #[x2] w fun v23 w24 =>
 kfld 1 x6 fun v25 =>
 kld v25 w24 fun v26 =>
 kint .i64 .lss v26 (.int .i64 1) fun v27 =>
 kB v27 fun b28 => kIf (!b28)
 (kfld 1 x6 fun v29 =>
 kld v29 w24 fun v30 =>
 kint .i64 .gtr v30 (.int .i64 4) fun v31 =>
 f100_1 x0 x6 v23 v31 Q w24)
 (f100_1 x0 x6 v23 (.bool true) Q w24)
def f100 (x0 x1 x2 : Value) (Q : PQ) (w : World) : Prop :=
 knew (Value.cells x1) 33 w fun v1 w2 =>
 kfld 0 v1 fun v3 =>
 kld v3 w2 fun v4 =>
 kix (some (.slice 105)) (some 7) v4 x2 fun v5 =>
 kldN 7 v5 w2 fun v6 =>
 knew #[(.string ⟨#[]⟩), .int .i64 0, .bool false, .int .i64 0, .int .i64 0, .int .i64 0, .int .i64 0] 105 w2 fun v7 w8 =>
 kst 7 v7 v6 w8 fun w9 =>
 kldN 2 v1 w9 fun v10 =>
 kfld 0 v7 fun v11 =>
 kld v11 w9 fun v12 =>
 kcall Tryz.prog 143 #[v10, v12] w9 fun v13 w14 =>
 kext v13 0 fun v15 =>
 kext v13 1 fun v16 =>
 kfld 0 v7 fun v17 =>
 kld v17 w14 fun v18 =>
 kB v16 fun b19 => kIf b19
 (kint .i64 .lss v15 x2 fun v20 =>
 kcall Tryz.prog 144 #[x0, v18, v20, (.string ⟨#[99, 111, 109, 112, 111, 110, 101, 110, 116, 115]⟩), x2] w14 fun v21 w22 =>
 f100_0 x0 x2 v7 Q w22)
 (kcall Tryz.prog 144 #[x0, v18, .bool false, (.string ⟨#[99, 111, 109, 112, 111, 110, 101, 110, 116, 115]⟩), x2] w14 fun v48 w49 =>
 f100_0 x0 x2 v7 Q w49)
theorem f100_ok {x0 x1 x2 : Value} {Q : PQ} {w : World} (h : f100 x0 x1 x2 Q w) : Meets Tryz.prog 100 #[x0, x1, x2] w Q :=
 sound' (c := Tryz.f100.body.get rfl) [] Tryz.func100 rfl rfl (args := [x0, x1, x2]) rfl (by kernel_rfl) h
def f144 (x0 x1 x2 x3 x4 : Value) (Q : PQ) (w : World) : Prop :=
 kcall Tryz.prog 145 #[x4] w fun v1 w2 =>
 kcall Tryz.prog 168 #[x1] w2 fun v3 w4 =>
 kun .not (some .bool) v3 fun v5 =>
 kB v5 fun b17 => kIf b17
 (kld (.pointer (some ⟨8, 0, none⟩)) w4 fun v6 =>
 kbldS [(.string ⟨#[]⟩)] 3 [(0, 1, x3), (1, 1, v1), (2, 1, (.string ⟨#[110, 97, 109, 101]⟩))] 9 w4 fun v7 w8 =>
 kcall Tryz.prog 99 #[x0, v6, v7] w8 fun v9 w10 =>
 Q (.tuple #[]) w10)
 (kB x2 fun b16 => kIf b16
 (kld (.pointer (some ⟨5, 0, none⟩)) w4 fun v11 =>
 kbldS [(.string ⟨#[]⟩)] 3 [(0, 1, x3), (1, 1, v1), (2, 1, (.string ⟨#[110, 97, 109, 101]⟩))] 9 w4 fun v12 w13 =>
 kcall Tryz.prog 99 #[x0, v11, v12] w13 fun v14 w15 =>
 Q (.tuple #[]) w15)
 (Q (.tuple #[]) w4))
theorem f144_ok {x0 x1 x2 x3 x4 : Value} {Q : PQ} {w : World} (h : f144 x0 x1 x2 x3 x4 Q w) : Meets Tryz.prog 144 #[x0, x1, x2, x3, x4] w Q :=
 sound' (c := Tryz.f144.body.get rfl) [] Tryz.func144 rfl rfl (args := [x0, x1, x2, x3, x4]) rfl (by kernel_rfl) h
def f143 (x0 x1 : Value) (Q : PQ) (w : World) : Prop :=
 knew (Value.cells x0) 33 w fun v1 w2 =>
 knew (Value.cells x1) 9 w2 fun v3 w4 =>
 kfld 0 v1 fun v5 =>
 kld v5 w4 fun v6 =>
 kcall Tryz.prog 166 #[v6, (.func (.func 167) #[] #[v3])] w4 fun v7 w8 =>
 kmm .i64 true v7 (.int .i64 0) fun v9 =>
 kint .i64 .geq v7 (.int .i64 0) fun v11 =>
 Q (.tuple #[v9, v11]) w8
theorem f143_ok {x0 x1 : Value} {Q : PQ} {w : World} (h : f143 x0 x1 Q w) : Meets Tryz.prog 143 #[x0, x1] w Q :=
 sound' (c := Tryz.f143.body.get rfl) [] Tryz.func143 rfl rfl (args := [x0, x1]) rfl (by kernel_rfl) h
def f167 (x0 x1 : Value) (Q : PQ) (w : World) : Prop :=
 knew (Value.cells x0) 105 w fun v1 w2 =>
 kfld 0 v1 fun v3 =>
 kld v3 w2 fun v4 =>
 kld x1 w2 fun v5 =>
 kstr .eql v4 v5 fun v6 =>
 Q v6 w2
theorem f167_ok {x0 x1 : Value} {Q : PQ} {w : World} (h : f167 x0 x1 Q w) : Meets Tryz.prog 167 #[x0, x1] w Q :=
 sound' (c := Tryz.f167.body.get rfl) [] Tryz.func167 rfl rfl (args := [x0, x1]) rfl (by kernel_rfl) h
def f168_3 (x0 x6 x7 x8 : Value) (J2 : Value → World → Prop) (Q : PQ) (w : World) : Prop :=
 kint .i64 .add x8 (.int .i64 1) fun v11 =>
 J2 v11 w
def f168_2 (x0 x6 x7 x8 x17 : Value) (J2 : Value → World → Prop) (Q : PQ) (w : World) : Prop :=
 kB x17 fun b12 => kIf b12
 (Q (.bool false) w)
 (f168_3 x0 x6 x7 x8 J2 Q w)
def f168_1 (x0 x6 x7 x8 : Value) (J2 : Value → World → Prop) (Q : PQ) (w : World) : Prop :=
 kix (some (.slice 5)) (some 1) x6 x8 fun v6 =>
 kld v6 w fun v7 =>
 kint .u8 .lss v7 (.int .u8 97) fun v8 =>
 kB v8 fun b9 => kIf (!b9)
 (kint .u8 .gtr v7 (.int .u8 122) fun v10 =>
 f168_2 x0 x6 x7 x8 v10 J2 Q w)
 (f168_2 x0 x6 x7 x8 (.bool true) J2 Q w)
def f168_4 (x0 : Value) (Q : PQ) (w : World) : Prop :=
 klenStr x0 fun v13 =>
 kint .i64 .geq v13 (.int .i64 1) fun v15 =>
 kB v15 fun b16 => kIf b16
 (klenStr x0 fun v17 =>
 kint .i64 .leq v17 (.int .i64 8) fun v19 =>
 Q v19 w)
 (Q (.bool false) w)
def f168_0 (x8 x0 x6 x7 : Value) (J2 : Value → World → Prop) (Q : PQ) (w : World) : Prop :=
 kint .i64 .lss x8 x7 fun v5 =>
 kB v5 fun b20 => kIf b20
 (f168_1 x0 x6 x7 x8 J2 Q w)
 (f168_4 x0 Q w)
def f168 (x0 : Value) (Q : PQ) (w : World) : Prop :=
 ksem Tryz.prog (convert 9 313 x0) w fun v1 w2 =>
 klen v1 fun v3 =>
 kL fun (I : Value → World → Prop) (μ : Value → World → Nat) => I (.int .i64 0) w2 ∧ ∀ (x8 : Value) (w1 : World), I x8 w1 →
 f168_0 x8 x0 v1 v3 (fun y8 w2 => I y8 w2 ∧ μ y8 w2 < μ x8 w1) Q w1
theorem f168_ok {x0 : Value} {Q : PQ} {w : World} (h : f168 x0 Q w) : Meets Tryz.prog 168 #[x0] w Q :=
 sound' (c := Tryz.f168.body.get rfl) [(2, [8])] Tryz.func168 rfl rfl (args := [x0]) rfl (by kernel_rfl) h
def f146_2 (x8 x9 x10 : Value) (J2 : Value → World → Prop) (Q : PQ) (w : World) : Prop :=
 kint .i64 .add x10 (.int .i64 1) fun v13 =>
 J2 v13 w
def f146_1 (x8 x9 x10 : Value) (J2 : Value → World → Prop) (Q : PQ) (w : World) : Prop :=
 kix (some (.slice 3)) (some 1) x8 x10 fun v10 =>
 kld v10 w fun v11 =>
 kint .i64 .neq v11 (.int .i64 0) fun v12 =>
 kB v12 fun b14 => kIf b14
 (Q (.bool false) w)
 (f146_2 x8 x9 x10 J2 Q w)
def f146_3 (Q : PQ) (w : World) : Prop :=
 Q (.bool true) w
def f146_0 (x10 x8 x9 : Value) (J2 : Value → World → Prop) (Q : PQ) (w : World) : Prop :=
 kint .i64 .lss x10 x9 fun v9 =>
 kB v9 fun b15 => kIf b15
 (f146_1 x8 x9 x10 J2 Q w)
 (f146_3 Q w)
def f146 (x0 : Value) (Q : PQ) (w : World) : Prop :=
 knew (Value.cells x0) 105 w fun v1 w2 =>
 kfld 3 v1 fun v3 =>
 kfld 1 v1 fun v4 =>
 kld v4 w2 fun v5 =>
 ksl (some (.array 4 3)) (some 1) v3 (some v5) none fun v6 =>
 klen v6 fun v7 =>
 kL fun (I : Value → World → Prop) (μ : Value → World → Nat) => I (.int .i64 0) w2 ∧ ∀ (x10 : Value) (w1 : World), I x10 w1 →
 f146_0 x10 v6 v7 (fun y10 w2 => I y10 w2 ∧ μ y10 w2 < μ x10 w1) Q w1
theorem f146_ok {x0 : Value} {Q : PQ} {w : World} (h : f146 x0 Q w) : Meets Tryz.prog 146 #[x0] w Q :=
 sound' (c := Tryz.f146.body.get rfl) [(2, [10])] Tryz.func146 rfl rfl (args := [x0]) rfl (by kernel_rfl) h
def f166_2 (x0 x1 x7 x8 : Value) (J2 : Value → World → Prop) (Q : PQ) (w : World) : Prop :=
 kint .i64 .add x8 (.int .i64 1) fun v8 =>
 J2 v8 w
def f166_1 (x0 x1 x7 x8 : Value) (J2 : Value → World → Prop) (Q : PQ) (w : World) : Prop :=
 kix (some (.slice 105)) (some 7) x0 x8 fun v4 =>
 kldN 7 v4 w fun v5 =>
 kcallV Tryz.prog x1 [v5] w fun v6 w7 =>
 kB v6 fun b9 => kIf b9
 (Q x8 w7)
 (f166_2 x0 x1 x7 x8 J2 Q w7)
def f166_3 (Q : PQ) (w : World) : Prop :=
 Q (.int .i64 (-1)) w
def f166_0 (x8 x0 x1 x7 : Value) (J2 : Value → World → Prop) (Q : PQ) (w : World) : Prop :=
 kint .i64 .lss x8 x7 fun v3 =>
 kB v3 fun b10 => kIf b10
 (f166_1 x0 x1 x7 x8 J2 Q w)
 (f166_3 Q w)
def f166 (x0 x1 : Value) (Q : PQ) (w : World) : Prop :=
 klen x0 fun v1 =>
 kL fun (I : Value → World → Prop) (μ : Value → World → Nat) => I (.int .i64 0) w ∧ ∀ (x8 : Value) (w1 : World), I x8 w1 →
 f166_0 x8 x0 x1 v1 (fun y8 w2 => I y8 w2 ∧ μ y8 w2 < μ x8 w1) Q w1
theorem f166_ok {x0 x1 : Value} {Q : PQ} {w : World} (h : f166 x0 x1 Q w) : Meets Tryz.prog 166 #[x0, x1] w Q :=
 sound' (c := Tryz.f166.body.get rfl) [(2, [8])] Tryz.func166 rfl rfl (args := [x0, x1]) rfl (by kernel_rfl) h
def f145 (x0 : Value) (Q : PQ) (w : World) : Prop :=
 kcall Tryz.prog 169 #[x0] w fun v1 w2 =>
 Q v1 w2
theorem f145_ok {x0 : Value} {Q : PQ} {w : World} (h : f145 x0 Q w) : Meets Tryz.prog 145 #[x0] w Q :=
 sound' (c := Tryz.f145.body.get rfl) [] Tryz.func145 rfl rfl (args := [x0]) rfl (by kernel_rfl) h
def f169 (x0 : Value) (Q : PQ) (w : World) : Prop :=
 kcall Tryz.prog 197 #[x0, .int .i64 10] w fun v1 w2 =>
 Q v1 w2
theorem f169_ok {x0 : Value} {Q : PQ} {w : World} (h : f169 x0 Q w) : Meets Tryz.prog 169 #[x0] w Q :=
 sound' (c := Tryz.f169.body.get rfl) [] Tryz.func169 rfl rfl (args := [x0]) rfl (by kernel_rfl) h
def f197_3 (x5 x7 : Value) (Q : PQ) (w : World) : Prop :=
 kint .i64 .add (.int .i64 1) x7 fun v25 =>
 ksl (some (.array 24 5)) (some 1) x5 (some (.int .i64 1)) (some v25) fun v26 =>
 ksem Tryz.prog (convert 313 9 v26) w fun v27 w28 =>
 Q v27 w28
def f197_2 (x0 x5 x6 : Value) (Q : PQ) (w : World) : Prop :=
 kcall Tryz.prog 210 #[x6] w fun v12 w13 =>
 kint .i64 .add (.int .i64 1) v12 fun v14 =>
 ksl (some (.array 24 5)) (some 1) x5 (some (.int .i64 1)) (some v14) fun v15 =>
 kcall Tryz.prog 211 #[v15, x6] w13 fun v16 w17 =>
 kint .i64 .lss x0 (.int .i64 0) fun v18 =>
 kB v18 fun b29 => kIf b29
 (kix (some (.array 24 5)) (some 1) x5 (.int .i64 0) fun v19 =>
 kst 1 v19 (.int .u8 45) w17 fun w20 =>
 kint .i64 .add (.int .i64 1) v12 fun v21 =>
 ksl (some (.array 24 5)) (some 1) x5 none (some v21) fun v22 =>
 ksem Tryz.prog (convert 313 9 v22) w20 fun v23 w24 =>
 Q v23 w24)
 (f197_3 x5 v12 Q w17)
def f197_1 (x0 : Value) (Q : PQ) (w : World) : Prop :=
 knew #[.int .u8 0, .int .u8 0, .int .u8 0, .int .u8 0, .int .u8 0, .int .u8 0, .int .u8 0, .int .u8 0, .int .u8 0, .int .u8 0, .int .u8 0, .int .u8 0, .int .u8 0, .int .u8 0, .int .u8 0, .int .u8 0, .int .u8 0, .int .u8 0, .int .u8 0, .int .u8 0, .int .u8 0, .int .u8 0, .int .u8 0, .int .u8 0] 324 w fun v7 w8 =>
 kcnv .u64 x0 fun v9 =>
 kint .i64 .lss x0 (.int .i64 0) fun v10 =>
 kB v10 fun b30 => kIf b30
 (kun .neg (some (.int .u64)) v9 fun v11 =>
 f197_2 x0 v7 v11 Q w8)
 (f197_2 x0 v7 v9 Q w8)
def f197_0 (x0 x17 : Value) (Q : PQ) (w : World) : Prop :=
 kB x17 fun b31 => kIf b31
 (kcall Tryz.prog 209 #[x0] w fun v5 w6 =>
 Q v5 w6)
 (f197_1 x0 Q w)
def f197_4 (x0 x1 : Value) (Q : PQ) (w : World) : Prop :=
 kcnv .u64 x0 fun v32 =>
 kint .i64 .lss x0 (.int .i64 0) fun v33 =>
 kcall Tryz.prog 212 #[.slice none 0 0, v32, x1, v33, .bool false] w fun v34 w35 =>
 kext v34 0 fun v36 =>
 kext v34 1 fun v37 =>
 Q v37 w35
def f197 (x0 x1 : Value) (Q : PQ) (w : World) : Prop :=
 kint .i64 .eql x1 (.int .i64 10) fun v1 =>
 kB v1 fun b38 => kIf b38
 (kint .i64 .leq (.int .i64 0) x0 fun v2 =>
 kB v2 fun b3 => kIf b3
 (kint .i64 .lss x0 (.int .i64 100) fun v4 =>
 f197_0 x0 v4 Q w)
 (f197_0 x0 (.bool false) Q w))
 (f197_4 x0 x1 Q w)
theorem f197_ok {x0 x1 : Value} {Q : PQ} {w : World} (h : f197 x0 x1 Q w) : Meets Tryz.prog 197 #[x0, x1] w Q :=
 sound' (c := Tryz.f197.body.get rfl) [] Tryz.func197 rfl rfl (args := [x0, x1]) rfl (by kernel_rfl) h
def f209_0 (x0 : Value) (Q : PQ) (w : World) : Prop :=
 kint .i64 .mul x0 (.int .i64 2) fun v4 =>
 kint .i64 .mul x0 (.int .i64 2) fun v5 =>
 kint .i64 .add v5 (.int .i64 2) fun v6 =>
 ksl (some .string) none (.string ⟨#[48, 48, 48, 49, 48, 50, 48, 51, 48, 52, 48, 53, 48, 54, 48, 55, 48, 56, 48, 57, 49, 48, 49, 49, 49, 50, 49, 51, 49, 52, 49, 53, 49, 54, 49, 55, 49, 56, 49, 57, 50, 48, 50, 49, 50, 50, 50, 51, 50, 52, 50, 53, 50, 54, 50, 55, 50, 56, 50, 57, 51, 48, 51, 49, 51, 50, 51, 51, 51, 52, 51, 53, 51, 54, 51, 55, 51, 56, 51, 57, 52, 48, 52, 49, 52, 50, 52, 51, 52, 52, 52, 53, 52, 54, 52, 55, 52, 56, 52, 57, 53, 48, 53, 49, 53, 50, 53, 51, 53, 52, 53, 53, 53, 54, 53, 55, 53, 56, 53, 57, 54, 48, 54, 49, 54, 50, 54, 51, 54, 52, 54, 53, 54, 54, 54, 55, 54, 56, 54, 57, 55, 48, 55, 49, 55, 50, 55, 51, 55, 52, 55, 53, 55, 54, 55, 55, 55, 56, 55, 57, 56, 48, 56, 49, 56, 50, 56, 51, 56, 52, 56, 53, 56, 54, 56, 55, 56, 56, 56, 57, 57, 48, 57, 49, 57, 50, 57, 51, 57, 52, 57, 53, 57, 54, 57, 55, 57, 56, 57, 57]⟩) (some v4) (some v6) fun v7 =>
 Q v7 w
def f209 (x0 : Value) (Q : PQ) (w : World) : Prop :=
 kint .i64 .lss x0 (.int .i64 10) fun v1 =>
 kB v1 fun b8 => kIf b8
 (kint .i64 .add x0 (.int .i64 1) fun v2 =>
 ksl (some .string) none (.string ⟨#[48, 49, 50, 51, 52, 53, 54, 55, 56, 57, 97, 98, 99, 100, 101, 102, 103, 104, 105, 106, 107, 108, 109, 110, 111, 112, 113, 114, 115, 116, 117, 118, 119, 120, 121, 122]⟩) (some x0) (some v2) fun v3 =>
 Q v3 w)
 (f209_0 x0 Q w)
theorem f209_ok {x0 : Value} {Q : PQ} {w : World} (h : f209 x0 Q w) : Meets Tryz.prog 209 #[x0] w Q :=
 sound' (c := Tryz.f209.body.get rfl) [] Tryz.func209 rfl rfl (args := [x0]) rfl (by kernel_rfl) h
end
section
attribute [local irreducible] kO kB kStr kInt kN kG kIf kfld kld kldN kst knew kmap kbld kbldS kext kcnv klenStr klen kcap kprt kprtN kbool kint kstr keq kun ksl kix kiv kta kmk kmm ksem ksemU kextf kcallV kcallM kcall kL
def byV (x : UInt8) : Value := .int .u8 (x.toNat : Int)
theorem slBy : Tryz.prog.underlying 313 = some (.slice 5) := by kernel_rfl
theorem uBy : Tryz.prog.underlying 5 = some (.int .u8) := by kernel_rfl
theorem uSt : Tryz.prog.underlying 9 = some .string := by kernel_rfl
theorem ksem_tobytes {w : World} {s : ByteArray} {K : Value → World → Prop} (h : ∀ c w', Same w w' → SlIs w' (some ⟨w.heap.size, 0, none⟩) s.size 1 (s.data.toList.map byV) → K (.slice (some ⟨w.heap.size, 0, none⟩) s.size c) w') :
  ksem Tryz.prog (convert 9 313 (.string s)) w K := by
 rw [ksem_ok (Go.Lib.run_convert_string_bytes w _ _ _ s uSt slBy uBy)]
 refine h _ _ ⟨rfl, rfl, rfl, by rw [Go.Lib.bytesWorld_size]; omega, fun k hk _ => Go.Lib.bytesWorld_at_old w _ s k hk⟩ ⟨by rw [List.length_map, Nat.mul_one]; rfl, .inr ⟨_, 0, _, _, _, rfl, Go.Lib.bytesWorld_at_new w _ s, ?_⟩⟩
 have e : (Go.Lib.bytesCells w 5 s).toList = s.data.toList.map byV ++ List.replicate (grownCap w s.size 0 5 - s.size) (.int .u8 0) := by
  unfold Go.Lib.bytesCells
  rw [Array.toList_append, Array.toList_map, Array.toList_replicate]; rfl
 rw [e, List.drop_zero, List.take_append_of_le_length (by rw [List.length_map]; exact Nat.le_of_eq (Nat.mul_one _)), List.take_of_length_le (by rw [List.length_map]; exact Nat.le_of_eq (Nat.mul_one _).symm)]
def NameOk (s : ByteArray) : Prop := 1 ≤ s.size ∧ s.size ≤ 8 ∧ ∀ x ∈ s.data.toList, 97 ≤ x.toNat ∧ x.toNat ≤ 122
theorem isName_spec {s : ByteArray} (h : NameOk s) (w : World) : Meets Tryz.prog 168 #[.string s] w fun v w' => v = .bool true ∧ Same w w' := by
 obtain ⟨h1, h8, hall⟩ := h
 refine f168_ok ?_
 unfold f168
 refine ksem_tobytes fun c w2 h2 hs2 => ?_
 have hsz : s.data.toList.length = s.size := rfl
 refine klen_at ?_
 refine kL1_of s.size (fun j x wr => x = .int .i64 j ∧ wr = w2) ⟨lI1_0 ⟨rfl, rfl⟩, fun x wr hx => ?_⟩
 obtain ⟨j, hj, ⟨rfl, rfl⟩, hJ⟩ := lI1_step hx
 unfold f168_0
 refine lss_at ?_
 refine kB_at ?_
 refine kIf_dec (fun hlt => ?_) (fun hge => ?_)
 ·have hlt : j < s.size := by omega
  have hjl : j < s.data.toList.length := by omega
  have hb := hall _ (List.getElem_mem hjl)
  unfold f168_1
  have := hs2
  rw [← hsz] at this
  refine kixld_of (F := byV) (l := s.data.toList) this hjl rfl ?_ |> fun h => by rw [hsz] at h; exact h
  generalize s.data.toList[j] = x at *
  rw [byV]
  refine lss_at ?_
  rw [decF (by omega)]
  refine kB_at ?_
  refine kIf_T rfl ?_
  refine gtr_at ?_
  rw [decF (by omega)]
  unfold f168_2
  refine kB_at ?_
  refine kIf_F rfl ?_
  repeat (first | refine kN_at ?_ | refine kB_at ?_ | refine kfld_of ?_ | refine kext_at rfl ?_ | refine kG_of (by first | exact rfl | omega) ?_ | refine klen_at ?_ | refine eql_at ?_ | refine neq_at ?_ | refine lss_at ?_ | refine leq_at ?_ | refine gtr_at ?_ | refine geq_at ?_ | refine add_at (by omega) (by omega) ?_ | refine sub_at (by omega) (by omega) ?_ | refine not_at ?_ | refine kO_at ?_ | refine kprt_at rfl ?_ | refine kprtN_at rfl ?_ | refine kcap_at ?_ | refine klenStr_at ?_ | refine kN_iat ?_ | refine kN_fat ?_ | refine kIf_T (by first | exact rfl | exact decT (by omega) | exact notT (decF (by omega))) ?_ | refine kIf_F (by first | exact rfl | exact decF (by omega) | exact notF (decT (by omega))) ?_)
  rw [cast_succ]
  exact hJ _ _ hlt ⟨rfl, rfl⟩
 ·unfold f168_4
  refine klenStr_at ?_
  refine geq_at ?_
  rw [decT (by omega)]
  refine kB_at ?_
  refine kIf_T rfl ?_
  refine klenStr_at ?_
  refine leq_at ?_
  rw [decT (by omega)]
  exact ⟨rfl, h2⟩
theorem find1_spec (q : Comp) {w : World} {bc : Nat} {s : ByteArray} (hb : blk w bc = some (.cells #[.string s] 9)) : Meets Tryz.prog 167 #[.agg q.cells.toArray, .pointer (some ⟨bc, 0, none⟩)] w fun v w' => v = .bool (decide (q.name = s)) ∧ Same w w' := by
 refine f167_ok ?_
 refine knew_of fun w2 hm2 hs2 hb2 => ?_
 have hb2 : blk w2 w.heap.size = some (.cells q.cells.toArray 105) := hb2
 have hbc := hm2.get hb (fun h => h)
 refine kfld_of ?_
 refine kld_of (v := .string q.name) hb2 (by simp [Comp.cells]) ?_
 refine kld_of (v := .string s) hbc rfl ?_
 rw [kstr_eql]
 exact ⟨rfl, hm2⟩
theorem indexC_spec {w : World} {a : Option Addr} {L : List Comp} {cp : Nat} (hs : SlIs w a L.length 7 (L.flatMap Comp.cells)) {bc : Nat} {s : ByteArray} (hb : blk w bc = some (.cells #[.string s] 9)) {k : Nat} (hk : k < L.length) (hkc : (L[k]).name = s) (hbef : ∀ j (hj : j < L.length), j < k → (L[j]).name ≠ s) (hlen : L.length ≤ 1000000) :
  Meets Tryz.prog 166 #[.slice a L.length cp, .func (.func 167) #[] #[.pointer (some ⟨bc, 0, none⟩)]] w fun v w' => v = .int .i64 k ∧ Same w w' := by
 refine f166_ok ?_
 unfold f166
 refine klen_at ?_
 refine kL1_of L.length (fun j x wr => x = .int .i64 j ∧ j ≤ k ∧ Same w wr) ⟨lI1_0 ⟨rfl, by omega, Mod.refl _ _⟩, fun x wr hx => ?_⟩
 obtain ⟨j, hj, ⟨rfl, hjk, hm⟩, hJ⟩ := lI1_step hx
 unfold f166_0
 refine lss_at ?_
 refine kB_at ?_
 refine kIf_dec (fun hlt => ?_) (fun hge => ?_)
 ·have hlt : j < L.length := by omega
  unfold f166_1
  refine kixldN_of (F := Comp.cells) (sz := 7) (fun _ => rfl) (by omega) (hs.same hm) hlt rfl ?_
  refine kcallC_of (find1_spec L[j] (hm.get hb (fun h => h))) ?_
  rintro v w7 ⟨rfl, h7⟩
  by_cases hjk' : j = k
  ·subst hjk'
   rw [hkc]
   rw [decT rfl]
   refine kB_at ?_
   refine kIf_T rfl ?_
   exact ⟨rfl, hm.trans h7⟩
  ·rw [decF (hbef j hlt (by omega))]
   refine kB_at ?_
   refine kIf_F rfl ?_
   unfold f166_2
   repeat (first | refine kN_at ?_ | refine kB_at ?_ | refine kfld_of ?_ | refine kext_at rfl ?_ | refine kG_of (by first | exact rfl | omega) ?_ | refine klen_at ?_ | refine eql_at ?_ | refine neq_at ?_ | refine lss_at ?_ | refine leq_at ?_ | refine gtr_at ?_ | refine geq_at ?_ | refine add_at (by omega) (by omega) ?_ | refine sub_at (by omega) (by omega) ?_ | refine not_at ?_ | refine kO_at ?_ | refine kprt_at rfl ?_ | refine kprtN_at rfl ?_ | refine kcap_at ?_ | refine klenStr_at ?_ | refine kN_iat ?_ | refine kN_fat ?_ | refine kIf_T (by first | exact rfl | exact decT (by omega) | exact notT (decF (by omega))) ?_ | refine kIf_F (by first | exact rfl | exact decF (by omega) | exact notF (decT (by omega))) ?_)
   rw [cast_succ]
   exact hJ _ _ hlt ⟨rfl, by omega, hm.trans h7⟩
 ·omega
structure GoodSc (L : List Comp) : Prop where
 len : L.length ≤ 16
 names : ∀ q ∈ L, NameOk q.name
 apart : ∀ i j (hi : i < L.length) (hj : j < L.length), L[i].name = L[j].name → i = j
 wide : ∀ q ∈ L, ∃ d : Nat, q.width = (d : Int) ∧ 1 ≤ d ∧ d ≤ 4
 clean : ∀ q ∈ L, (q.width ≤ 1 → q.d1 = 0) ∧ (q.width ≤ 2 → q.d2 = 0) ∧ (q.width ≤ 3 → q.d3 = 0)
def scV (a : Option Addr) (n c : Nat) (rv : Value) : Value := .agg #[.slice a n c, rv]
theorem find_spec {w : World} {a : Option Addr} {L : List Comp} {cp : Nat} {ra : Option Addr} {rn rc : Nat} (hs : SlIs w a L.length 7 (L.flatMap Comp.cells)) (hG : GoodSc L) {k : Nat} (hk : k < L.length) :
  Meets Tryz.prog 143 #[scV a L.length cp (.slice ra rn rc), .string (L[k]).name] w fun v w' => v = .tuple #[.int .i64 k, .bool true] ∧ Same w w' := by
 have hl := hG.len
 rw [scV]
 refine f143_ok ?_
 unfold f143
 refine knew_of fun w2 hm2 hs2 hb2 => ?_
 have hb2 : blk w2 w.heap.size = some (.cells #[.slice a L.length cp, .slice ra rn rc] 33) := hb2
 refine knew_of fun w4 hm4 hs4 hb4 => ?_
 have hb4 : blk w4 w2.heap.size = some (.cells #[.string (L[k]).name] 9) := hb4
 have hb24 := hm4.get hb2 (fun h => h)
 repeat (first | refine kN_at ?_ | refine kB_at ?_ | refine kfld_of ?_ | refine kext_at rfl ?_ | refine kld_at hb24 rfl ?_ | refine kldN_at hb24 rfl (by omega) ?_ | refine kG_of (by first | exact rfl | omega) ?_ | refine klen_at ?_ | refine eql_at ?_ | refine neq_at ?_ | refine lss_at ?_ | refine leq_at ?_ | refine gtr_at ?_ | refine geq_at ?_ | refine add_at (by omega) (by omega) ?_ | refine sub_at (by omega) (by omega) ?_ | refine not_at ?_ | refine kO_at ?_ | refine kprt_at rfl ?_ | refine kprtN_at rfl ?_ | refine kcap_at ?_ | refine klenStr_at ?_ | refine kN_iat ?_ | refine kN_fat ?_ | refine kIf_T (by first | exact rfl | exact decT (by omega) | exact notT (decF (by omega))) ?_ | refine kIf_F (by first | exact rfl | exact decF (by omega) | exact notF (decT (by omega))) ?_)
 refine kcall_of (indexC_spec (hs.same (hm2.trans hm4)) hb4 hk rfl (fun j hj hjk e => by have := hG.apart j k hj hk e; omega) (by omega)) ?_
 rintro v w8 ⟨rfl, h8⟩
 rw [kmm_max]
 refine geq_at ?_
 rw [decT (by omega), show max (k : Int) 0 = (k : Int) by omega]
 exact ⟨rfl, (hm2.trans hm4).trans h8⟩
end
end Go.Proofs.YtmidldeaapdjoaaGreatDoor
