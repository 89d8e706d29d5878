/-
Lemmas for the statements of this seat: no statement of the seat is proved in this part (3 of 6); the conditions stand in each theorem.
-/
import Derived.Test.YtlkpadfkmdgjcaaGreatDoorQuery2
import Derived.Test.YtlkpadfkmdgjcaaGreatDoorProg
import Derived.Shelf.SlSortCmp.WholeK
section
set_option linter.unusedSimpArgs false
set_option linter.unusedVariables false
namespace Go.Proofs.YtlkpadfkmdgjcaaGreatDoor
open Go Go.Ev
set_option linter.unusedVariables false
set_option linter.unusedSimpArgs false
set_option maxRecDepth 100000
attribute [local irreducible] kO kB kStr kInt kN kG kIf kfld kld kldN kst knew kmap kbld kbldS kext kcnv klenStr klen kcap kprt kprtN kbool kint kstr keq kun ksl kix kiv kta kmk kmm ksem ksemU kextf kcallV kcallM kcall kL

/-! ### The roll -/
theorem ptRoll : isPtrT Tryz.prog 124 = true := by kernel_rfl
def genC (x : Int × Bool) : List Value := [nV x.1, .bool x.2]
def rollTag (t : Tag) : Prop := t = .roll ∨ t = .places ∨ t = .row
def RollAt (o : Lab) (w : World) (b : Nat) (gens : List (Int × Bool)) (free : List Nat) : Prop :=
  o b = some .roll ∧ gens.length ≤ 64 ∧ free.length ≤ gens.length ∧ (∀ i ∈ free, i < gens.length) ∧
  ∃ pv rv, blk w b = some (.cells #[pv, rv] 220) ∧ Own w pv 2 (gens.flatMap genC) ∧ Own w rv 1 (free.map natV) ∧ (∀ k, vblk pv k → o k = some .places) ∧ (∀ k, vblk rv k → o k = some .row)
theorem RollAt.frame {o o' : Lab} {w w' : World} {b : Nat} {gens : List (Int × Bool)} {free : List Nat} (h : RollAt o w b gens free) {fp : Nat → Prop} (hm : Mod fp w w') (hf : ∀ k t, o k = some t → rollTag t → ¬ fp k) (ho : LabEq w o o') : RollAt o' w' b gens free := by
  obtain ⟨h1, h2, h3, h4, pv, rv, hb, hp, hr, hpl, hrl⟩ := h
  refine ⟨by rw [ho b (lt_of_blk hb)]; exact h1, h2, h3, h4, pv, rv, hm.get hb (hf b _ h1 (.inl rfl)), hp.mod hm fun k hk => hf k _ (hpl k hk) (.inr (.inl rfl)), hr.mod hm fun k hk => hf k _ (hrl k hk) (.inr (.inr rfl)), fun k hk => ?_, fun k hk => ?_⟩
  · rw [ho k (hp.vblk_lt hk)]; exact hpl k hk
  · rw [ho k (hr.vblk_lt hk)]; exact hrl k hk
theorem RollAt.same {o : Lab} {w w' : World} {b : Nat} {gens : List (Int × Bool)} {free : List Nat} (h : RollAt o w b gens free) (hm : Same w w') : RollAt o w' b gens free := h.frame hm (fun _ _ _ _ h => h) (LabEq.refl _ _)
def entV (idx gen : Int) : Value := .agg #[.int .i64 idx, .int .i64 gen]
theorem rTake_spec {o : Lab} {w : World} {b : Nat} {gens : List (Int × Bool)} {free : List Nat} (h : RollAt o w b gens free) {L : Nat} (hL : L + 1 = free.length) {i : Nat} (hi : free[L]'(by omega) = i) (hlt : i < gens.length) (hg : 0 ≤ (gens[i]'hlt).1 ∧ (gens[i]'hlt).1 ≤ 1000000) :
    Meets Tryz.prog 75 #[.pointer (some ⟨b, 0, none⟩)] w fun v w' =>
      v = .tuple #[entV i ((gens[i]'hlt).1 + 1), .nilIface] ∧ RollAt o w' b (gens.set i ((gens[i]'hlt).1 + 1, true)) (free.take L) ∧ Mod (FP o rollTag) w w' := by
  obtain ⟨h1, h2, h3, h4, pv, rv, hb, hp, hr, hpl, hrl⟩ := h
  obtain ⟨bp, cp, arr, t, rfl, hbp, p1, p2, p3⟩ := hp.viewF (F := genC) (sz := 2) (fun _ => rfl) (by omega) (show 0 < gens.length by omega)
  obtain ⟨ra, rn, rc, rfl, hrs, hrn⟩ := hr.is
  have hrn : rn = free.length := by simpa using hrn rfl
  subst hrn
  have hr0 := hr
  obtain ⟨br, cr, arr2, t2, e, hbr, r1, r2, r3⟩ := hr.viewM (by omega)
  cases e
  have hpb := hpl bp ⟨_, _, _, rfl⟩
  have hrb := hrl br ⟨_, _, _, rfl⟩
  have npb : bp ≠ b := fun e => by rw [e, h1] at hpb; cases hpb
  have nrb : br ≠ b := fun e => by rw [e, h1] at hrb; cases hrb
  have npr : bp ≠ br := fun e => by rw [e, hrb] at hpb; cases hpb
  have lb := lt_of_blk hb
  have lbp := lt_of_blk hbp
  have lbr := lt_of_blk hbr
  refine f75_ok ?_
  unfold f75
  refine knew_of fun w2 hm2 hs2 hb2 => ?_
  rw [keq_ptr_nil ptRoll]
  have hb2b := hm2.get hb (fun h => h)
  refine kB_at ?_
  refine kIf_F rfl ?_
  repeat (first | refine kN_at ?_ | refine kB_at ?_ | refine kfld_of ?_ | refine kext_at rfl ?_ | refine kld_at hb2b rfl ?_ | refine kldN_at hb2b rfl (by omega) ?_ | refine kG_of (by first | exact rfl | omega) ?_ | refine klen_at ?_ | refine eql_at ?_ | refine neq_at ?_ | refine lss_at ?_ | refine leq_at ?_ | refine gtr_at ?_ | refine geq_at ?_ | refine add_at (by omega) (by omega) ?_ | refine sub_at (by omega) (by omega) ?_ | refine not_at ?_ | refine kO_at ?_ | refine kprt_at rfl ?_ | refine kprtN_at rfl ?_ | refine kcap_at ?_ | refine klenStr_at ?_ | refine kN_iat ?_ | refine kN_fat ?_ | refine kIf_T (by first | exact rfl | exact decT (by omega) | exact notT (decF (by omega))) ?_ | refine kIf_F (by first | exact rfl | exact decF (by omega) | exact notF (decT (by omega))) ?_)
  rw [show ((free.length : Int) - 1) = ((L : Nat) : Int) by omega]
  refine kixld_of (F := natV) (hrs.same hm2) (show L < free.length by omega) rfl ?_
  rw [hi]
  repeat (first | refine kN_at ?_ | refine kB_at ?_ | refine kfld_of ?_ | refine kext_at rfl ?_ | refine kld_at hb2b rfl ?_ | refine kldN_at hb2b rfl (by omega) ?_ | refine kG_of (by first | exact rfl | omega) ?_ | refine klen_at ?_ | refine eql_at ?_ | refine neq_at ?_ | refine lss_at ?_ | refine leq_at ?_ | refine gtr_at ?_ | refine geq_at ?_ | refine add_at (by omega) (by omega) ?_ | refine sub_at (by omega) (by omega) ?_ | refine not_at ?_ | refine kO_at ?_ | refine kprt_at rfl ?_ | refine kprtN_at rfl ?_ | refine kcap_at ?_ | refine klenStr_at ?_ | refine kN_iat ?_ | refine kN_fat ?_ | refine kIf_T (by first | exact rfl | exact decT (by omega) | exact notT (decF (by omega))) ?_ | refine kIf_F (by first | exact rfl | exact decF (by omega) | exact notF (decT (by omega))) ?_)
  refine ksl_sl_hi (by omega) ?_
  repeat (first | refine kN_at ?_ | refine kB_at ?_ | refine kfld_of ?_ | refine kext_at rfl ?_ | refine kG_of (by first | exact rfl | omega) ?_ | refine klen_at ?_ | refine eql_at ?_ | refine neq_at ?_ | refine lss_at ?_ | refine leq_at ?_ | refine gtr_at ?_ | refine geq_at ?_ | refine add_at (by omega) (by omega) ?_ | refine sub_at (by omega) (by omega) ?_ | refine not_at ?_ | refine kO_at ?_ | refine kprt_at rfl ?_ | refine kprtN_at rfl ?_ | refine kcap_at ?_ | refine klenStr_at ?_ | refine kN_iat ?_ | refine kN_fat ?_ | refine kIf_T (by first | exact rfl | exact decT (by omega) | exact notT (decF (by omega))) ?_ | refine kIf_F (by first | exact rfl | exact decF (by omega) | exact notF (decT (by omega))) ?_)
  refine kst1_of hb2b rfl rfl (by simp) fun w31 h31 hs31 hb31 => ?_
  simp only [List.setIfInBounds_toArray, List.set_cons_succ, List.set_cons_zero] at hb31
  repeat (first | refine kN_at ?_ | refine kB_at ?_ | refine kfld_of ?_ | refine kext_at rfl ?_ | refine kld_at hb31 rfl ?_ | refine kldN_at hb31 rfl (by omega) ?_ | refine kG_of (by first | exact rfl | omega) ?_ | refine klen_at ?_ | refine eql_at ?_ | refine neq_at ?_ | refine lss_at ?_ | refine leq_at ?_ | refine gtr_at ?_ | refine geq_at ?_ | refine add_at (by omega) (by omega) ?_ | refine sub_at (by omega) (by omega) ?_ | refine not_at ?_ | refine kO_at ?_ | refine kprt_at rfl ?_ | refine kprtN_at rfl ?_ | refine kcap_at ?_ | refine klenStr_at ?_ | refine kN_iat ?_ | refine kN_fat ?_ | refine kIf_T (by first | exact rfl | exact decT (by omega) | exact notT (decF (by omega))) ?_ | refine kIf_F (by first | exact rfl | exact decF (by omega) | exact notF (decT (by omega))) ?_)
  rw [natV, kix_slice]
  refine kG_of (by omega) ?_
  rw [add_mk, Nat.zero_add, Int.toNat_natCast]
  have hbp31 := h31.get (hm2.get hbp (fun h => h)) npb
  have hseg := p3 i hlt
  have hgen : arr[i * 2]? = some (nV (gens[i]'hlt).1) := by
    obtain ⟨g1, g2⟩ := segL_spec _ _ _ _ hseg
    have := congrArg (fun l : List Value => l[0]?) g2
    simpa [genC, List.getElem?_take, List.getElem?_drop] using this
  have hseg' := (segL_spec _ _ _ _ hseg).1
  rw [Array.length_toList] at hseg'
  repeat (first | refine kN_at ?_ | refine kB_at ?_ | refine kfld_of ?_ | refine kext_at rfl ?_ | refine kG_of (by first | exact rfl | omega) ?_ | refine klen_at ?_ | refine eql_at ?_ | refine neq_at ?_ | refine lss_at ?_ | refine leq_at ?_ | refine gtr_at ?_ | refine geq_at ?_ | refine add_at (by omega) (by omega) ?_ | refine sub_at (by omega) (by omega) ?_ | refine not_at ?_ | refine kO_at ?_ | refine kprt_at rfl ?_ | refine kprtN_at rfl ?_ | refine kcap_at ?_ | refine klenStr_at ?_ | refine kN_iat ?_ | refine kN_fat ?_ | refine kIf_T (by first | exact rfl | exact decT (by omega) | exact notT (decF (by omega))) ?_ | refine kIf_F (by first | exact rfl | exact decF (by omega) | exact notF (decT (by omega))) ?_)
  refine kld_of (v := nV (gens[i]'hlt).1) hbp31 hgen ?_
  refine add_at (by omega) (by omega) ?_
  repeat (first | refine kN_at ?_ | refine kB_at ?_ | refine kfld_of ?_ | refine kext_at rfl ?_ | refine kG_of (by first | exact rfl | omega) ?_ | refine klen_at ?_ | refine eql_at ?_ | refine neq_at ?_ | refine lss_at ?_ | refine leq_at ?_ | refine gtr_at ?_ | refine geq_at ?_ | refine add_at (by omega) (by omega) ?_ | refine sub_at (by omega) (by omega) ?_ | refine not_at ?_ | refine kO_at ?_ | refine kprt_at rfl ?_ | refine kprtN_at rfl ?_ | refine kcap_at ?_ | refine klenStr_at ?_ | refine kN_iat ?_ | refine kN_fat ?_ | refine kIf_T (by first | exact rfl | exact decT (by omega) | exact notT (decF (by omega))) ?_ | refine kIf_F (by first | exact rfl | exact decF (by omega) | exact notF (decT (by omega))) ?_)
  refine kst_of (vs := [nV ((gens[i]'hlt).1 + 1)]) hbp31 rfl rfl rfl (by simp; omega) (by simp) fun w39 h39 hs39 hb39 => ?_
  repeat (first | refine kN_at ?_ | refine kB_at ?_ | refine kfld_of ?_ | refine kext_at rfl ?_ | refine kG_of (by first | exact rfl | omega) ?_ | refine klen_at ?_ | refine eql_at ?_ | refine neq_at ?_ | refine lss_at ?_ | refine leq_at ?_ | refine gtr_at ?_ | refine geq_at ?_ | refine add_at (by omega) (by omega) ?_ | refine sub_at (by omega) (by omega) ?_ | refine not_at ?_ | refine kO_at ?_ | refine kprt_at rfl ?_ | refine kprtN_at rfl ?_ | refine kcap_at ?_ | refine klenStr_at ?_ | refine kN_iat ?_ | refine kN_fat ?_ | refine kIf_T (by first | exact rfl | exact decT (by omega) | exact notT (decF (by omega))) ?_ | refine kIf_F (by first | exact rfl | exact decF (by omega) | exact notF (decT (by omega))) ?_)
  refine kst_of (vs := [.bool true]) hb39 rfl rfl rfl (by rw [setAll_size]; omega) (by simp) fun w41 h41 hs41 hb41 => ?_
  have hb41 : blk w41 bp = some (.cells (setAll (genC ((gens[i]'hlt).1 + 1, true)) arr (i * 2)) t) := hb41
  repeat (first | refine kN_at ?_ | refine kB_at ?_ | refine kfld_of ?_ | refine kext_at rfl ?_ | refine kG_of (by first | exact rfl | omega) ?_ | refine klen_at ?_ | refine eql_at ?_ | refine neq_at ?_ | refine lss_at ?_ | refine leq_at ?_ | refine gtr_at ?_ | refine geq_at ?_ | refine add_at (by omega) (by omega) ?_ | refine sub_at (by omega) (by omega) ?_ | refine not_at ?_ | refine kO_at ?_ | refine kprt_at rfl ?_ | refine kprtN_at rfl ?_ | refine kcap_at ?_ | refine klenStr_at ?_ | refine kN_iat ?_ | refine kN_fat ?_ | refine kIf_T (by first | exact rfl | exact decT (by omega) | exact notT (decF (by omega))) ?_ | refine kIf_F (by first | exact rfl | exact decF (by omega) | exact notF (decT (by omega))) ?_)
  refine kld_of (v := nV ((gens[i]'hlt).1 + 1)) hb41 ?_ ?_
  · have e := setAll_list (genC ((gens[i]'hlt).1 + 1, true)) arr (i * 2) (by simp [genC]; omega)
    have hl : (arr.toList.take (i * 2)).length = i * 2 := by rw [List.length_take, Array.length_toList]; omega
    rw [← Array.getElem?_toList, e, List.append_assoc, List.getElem?_append_right (by rw [hl]; omega), hl]
    simp [genC]
  refine kbld_of (cs := [.int .i64 i, .int .i64 ((gens[i]'hlt).1 + 1)]) rfl ?_
  have hz := h41.get (h39.get (h31.get hb2 (by omega)) (by omega)) (by omega)
  refine kst_of (vs := [.int .i64 i, .int .i64 ((gens[i]'hlt).1 + 1)]) hz rfl rfl rfl (by simp) (by simp) fun w45 h45 hs45 hb45 => ?_
  have hb45 : blk w45 w.heap.size = some (.cells #[.int .i64 i, .int .i64 ((gens[i]'hlt).1 + 1)] 37) := hb45
  repeat (first | refine kN_at ?_ | refine kB_at ?_ | refine kfld_of ?_ | refine kext_at rfl ?_ | refine kld_at hb45 rfl ?_ | refine kldN_at hb45 rfl (by omega) ?_ | refine kG_of (by first | exact rfl | omega) ?_ | refine klen_at ?_ | refine eql_at ?_ | refine neq_at ?_ | refine lss_at ?_ | refine leq_at ?_ | refine gtr_at ?_ | refine geq_at ?_ | refine add_at (by omega) (by omega) ?_ | refine sub_at (by omega) (by omega) ?_ | refine not_at ?_ | refine kO_at ?_ | refine kprt_at rfl ?_ | refine kprtN_at rfl ?_ | refine kcap_at ?_ | refine klenStr_at ?_ | refine kN_iat ?_ | refine kN_fat ?_ | refine kIf_T (by first | exact rfl | exact decT (by omega) | exact notT (decF (by omega))) ?_ | refine kIf_F (by first | exact rfl | exact decF (by omega) | exact notF (decT (by omega))) ?_)
  have hbF := h45.get (h41.get (h39.get hb31 npb.symm) npb.symm) (by omega)
  have hpF := h45.get hb41 (by omega)
  have hm : Mod (fun k => k = b ∨ k = bp) w w45 := by
    have a1 : Mod (fun k => k = b ∨ k = bp) w w41 := (Mod.of_same hm2).trans ((h31.mono fun k _ e => .inl e).trans ((h39.mono fun k _ e => .inr e).trans (h41.mono fun k _ e => .inr e)))
    exact a1.trans' (h45.mono fun k _ e => .inr (by omega))
  refine ⟨rfl, ⟨h1, by simpa using h2, by simp; omega, fun j hj => by simpa using h4 j (List.mem_of_mem_take hj), _, _, hbF, ?_, ?_, ?_, ?_⟩, hm.mono fun k _ e => ?_⟩
  · have := Own.setF (F := genC) (fun _ => rfl) hp hbp (x := ((gens[i]'hlt).1 + 1, true)) (i := i) hpF hlt
    simpa using this
  · rw [List.map_take]
    have e1 := (hr0.mod hm fun k hk e => by
      rcases e with rfl | rfl
      · have := hrl _ hk; rw [h1] at this; cases this
      · have := hrl _ hk; rw [hpb] at this; cases this).cutN (k := L) (by omega)
    rw [Nat.mul_one] at e1
    exact e1
  · rintro k ⟨_, _, _, e⟩; cases e; exact hpb
  · rintro k ⟨_, _, _, e⟩; cases e; exact hrb
  · rcases e with rfl | rfl
    · exact ⟨_, h1, .inl rfl⟩
    · exact ⟨_, hpb, .inr (.inl rfl)⟩
end Go.Proofs.YtlkpadfkmdgjcaaGreatDoor
end
section
set_option linter.unusedSimpArgs false
set_option linter.unusedVariables false
namespace Go.Proofs.YtlkpadfkmdgjcaaGreatDoor
open Go Go.Ev
set_option linter.unusedVariables false
set_option linter.unusedSimpArgs false
set_option maxRecDepth 100000
attribute [local irreducible] kO kB kStr kInt kN kG kIf kfld kld kldN kst knew kmap kbld kbldS kext kcnv klenStr klen kcap kprt kprtN kbool kint kstr keq kun ksl kix kiv kta kmk kmm ksem ksemU kextf kcallV kcallM kcall kL

theorem kmk_of {z : Value} {n l : Nat} {ty : TypeId} {w : World} {K : Value → World → Prop} (h1 : l ≤ 9223372036854775807) (h2 : n * l ≤ 281474976710656)
    (h : ∀ w2, Same w w2 → w2.heap.size = w.heap.size + 1 → blk w2 w.heap.size = some (.cells (zrow z.cells.toList l).toArray ty) → K (.slice (some ⟨w.heap.size, 0, none⟩) l l) w2) : kmk z n ty (.int .i64 l) (.int .i64 l) w K := by
  rw [kmk_eq]
  have h2' : ((n : Int) * (l : Int)) ≤ 281474976710656 := by
    rw [← Int.natCast_mul]; omega
  refine kG_of ⟨by omega, by omega, by omega, h2'⟩ ?_
  rw [Int.toNat_natCast]
  exact h _ ((Mod.refl _ _).alloc _) (by simp) (alloc_heap_new _ _)
theorem zrow_rep {α : Type} {F : α → List Value} (x : α) : ∀ n, zrow (F x) n = (List.replicate n x).flatMap F
  | 0 => rfl
  | n + 1 => by rw [zrow, zrow_rep x n, List.replicate_succ, List.flatMap_cons]
theorem reverse_spec {w : World} {v : Value} {L : List Nat} (hO : Own w v 1 (L.map natV)) (hl : L.length ≤ 1000000) :
    Meets Tryz.prog 133 #[v] w fun r w' => Own w' v 1 (L.reverse.map natV) ∧ Mod (vblk v) w w' ∧ w'.heap.size = w.heap.size := by
  obtain ⟨va, vn, vc, rfl, hs, hvn⟩ := hO.is
  have hvn : vn = L.length := by simpa using hvn rfl
  subst hvn
  refine f133_ok ?_
  unfold f133
  repeat (first | refine kN_at ?_ | refine kB_at ?_ | refine kfld_of ?_ | refine kext_at rfl ?_ | refine kG_of (by first | exact rfl | omega) ?_ | refine klen_at ?_ | refine eql_at ?_ | refine neq_at ?_ | refine lss_at ?_ | refine leq_at ?_ | refine gtr_at ?_ | refine geq_at ?_ | refine add_at (by omega) (by omega) ?_ | refine sub_at (by omega) (by omega) ?_ | refine not_at ?_ | refine kO_at ?_ | refine kprt_at rfl ?_ | refine kprtN_at rfl ?_ | refine kcap_at ?_ | refine klenStr_at ?_ | refine kN_iat ?_ | refine kN_fat ?_ | refine kIf_T (by first | exact rfl | exact decT (by omega) | exact notT (decF (by omega))) ?_ | refine kIf_F (by first | exact rfl | exact decF (by omega) | exact notF (decT (by omega))) ?_)
  refine kL2_of L.length (fun i x y wr => x = .int .i64 i ∧ y = .int .i64 ((L.length : Int) - 1 - i) ∧ 2 * i ≤ L.length + 1 ∧ Mod (vblk (.slice va L.length vc)) w wr ∧ wr.heap.size = w.heap.size ∧ ∃ cur : List Nat, cur.length = L.length ∧ Own wr (.slice va L.length vc) 1 (cur.map natV) ∧ ∀ k, k < L.length → cur[k]? = if k < i ∨ L.length < k + i + 1 then L[L.length - 1 - k]? else L[k]?)
    ⟨lI2_0 ⟨rfl, by simp, by omega, Mod.refl _ _, rfl, L, rfl, hO, fun k hk => by rw [if_neg (by omega)]⟩, fun x y wr hx => ?_⟩
  obtain ⟨i, hi, ⟨rfl, rfl, h2i, hm, hsz, cur, hcl, hOc, hcur⟩, hJ⟩ := lI2_step hx
  unfold f133_0
  refine lss_at ?_
  refine kB_at ?_
  refine kIf_dec (fun hlt => ?_) (fun hge => ?_)
  · obtain ⟨j, hj⟩ : ∃ j, j + i + 1 = L.length := ⟨L.length - 1 - i, by omega⟩
    rw [show ((L.length : Int) - 1 - i) = ((j : Nat) : Int) by omega] at *
    obtain ⟨bc, cp, arr, t, e, hb, q1, q2, q3⟩ := hOc.viewM (by omega)
    rw [hcl] at e
    cases e
    unfold f133_1
    have hb : blk wr.drew bc = _ := hb
    have hmd := hm.drew
    have hszd : wr.drew.heap.size = w.heap.size := hsz
    have hOc : Own wr.drew _ _ _ := hOc.same ((Mod.refl _ _).drew)
    generalize wr.drew = wa at *
    rw [kix_slice]
    refine kG_of (by omega) ?_
    rw [add_mk, Nat.zero_add, Int.toNat_natCast, Nat.mul_one]
    refine kld_of hb (q3 j (by omega)) ?_
    refine kG_of rfl ?_
    rw [kix_slice]
    refine kG_of (by omega) ?_
    rw [add_mk, Nat.zero_add, Int.toNat_natCast, Nat.mul_one]
    refine kld_of hb (q3 i (by omega)) ?_
    refine kG_of rfl ?_
    rw [kix_slice]
    refine kG_of (by omega) ?_
    rw [add_mk, Nat.zero_add, Int.toNat_natCast, Nat.mul_one]
    refine kst_of (vs := [natV cur[j]]) hb rfl rfl rfl (by omega) (by simp) fun w10 h10 hs10 hb10 => ?_
    rw [kix_slice]
    refine kG_of (by omega) ?_
    rw [add_mk, Nat.zero_add, Int.toNat_natCast, Nat.mul_one]
    refine kst_of (vs := [natV cur[i]]) hb10 rfl rfl rfl (by rw [setAll_size]; omega) (by simp) fun w12 h12 hs12 hb12 => ?_
    refine add_at (by omega) (by omega) ?_
    refine sub_at (by omega) (by omega) ?_
    have o1 := hOc.set1 (v := natV cur[j]) hb hb10 (by simp; omega)
    have o2 := o1.set1 (v := natV cur[i]) hb10 hb12 (by simp; omega)
    rw [cast_succ, show ((j : Int) - 1) = (L.length : Int) - 1 - ((i + 1 : Nat) : Int) by omega]
    refine hJ _ _ _ (by omega) ⟨rfl, rfl, by omega, hmd.trans ((h10.trans h12).mono fun k _ e => by subst e; exact ⟨_, _, _, rfl⟩), by omega, (cur.set i cur[j]).set j cur[i], by simp [hcl], ?_, fun k hk => ?_⟩
    · rw [List.map_set, List.map_set]; exact o2
    · rw [List.getElem?_set, List.getElem?_set]
      have cj := hcur j (by omega)
      have ci := hcur i (by omega)
      rw [if_neg (by omega), List.getElem?_eq_getElem (by omega), List.getElem?_eq_getElem (by omega)] at cj ci
      simp only [Option.some.injEq] at cj ci
      have hck := hcur k hk
      by_cases h1 : j = k
      · subst h1
        rw [if_pos rfl, if_pos (by simp; omega), if_pos (by omega), show L.length - 1 - j = i by omega, ci, List.getElem?_eq_getElem (by omega)]
      · rw [if_neg h1]
        by_cases h3 : i = k
        · subst h3
          rw [if_pos rfl, if_pos (by omega), if_pos (by omega), show L.length - 1 - i = j by omega, cj, List.getElem?_eq_getElem (by omega)]
        · rw [if_neg h3, hck]
          by_cases h4 : k < i ∨ L.length < k + i + 1
          · rw [if_pos h4, if_pos (by omega)]
          · rw [if_neg h4, if_neg (by omega)]
  · refine ⟨?_, hm, hsz⟩
    have : cur = L.reverse := by
      apply List.ext_getElem?
      intro k
      by_cases hk : k < L.length
      · rw [hcur k hk, List.getElem?_reverse hk]
        by_cases h4 : k < i ∨ L.length < k + i + 1
        · rw [if_pos h4]
        · rw [if_neg h4, show L.length - 1 - k = k by omega]
      · rw [List.getElem?_eq_none (by omega), List.getElem?_eq_none (by simp; omega)]
    rw [← this]; exact hOc
def rollLab (o : Lab) (n0 n1 k : Nat) : Option Tag := if k < n0 then o k else if k = n0 then some .places else if k = n1 then some .roll else some .row
theorem rNew_spec (o : Lab) (w : World) (most : Nat) (h : most ≤ 64) : Meets Tryz.prog 69 #[.int .i64 most] w fun v w' =>
    ∃ b o', v = .tuple #[.pointer (some ⟨b, 0, none⟩), .nilIface] ∧ LabEq w o o' ∧ RollAt o' w' b (List.replicate most (0, false)) (List.range most).reverse ∧ Same w w' ∧ (∀ k, w.heap.size ≤ k → ∃ t, o' k = some t ∧ rollTag t) ∧ w.heap.size ≤ b := by
  refine f69_ok ?_
  unfold f69
  repeat (first | refine kN_at ?_ | refine kB_at ?_ | refine kfld_of ?_ | refine kext_at rfl ?_ | refine kG_of (by first | exact rfl | omega) ?_ | refine klen_at ?_ | refine eql_at ?_ | refine neq_at ?_ | refine lss_at ?_ | refine leq_at ?_ | refine gtr_at ?_ | refine geq_at ?_ | refine add_at (by omega) (by omega) ?_ | refine sub_at (by omega) (by omega) ?_ | refine not_at ?_ | refine kO_at ?_ | refine kprt_at rfl ?_ | refine kprtN_at rfl ?_ | refine kcap_at ?_ | refine klenStr_at ?_ | refine kN_iat ?_ | refine kN_fat ?_ | refine kIf_T (by first | exact rfl | exact decT (by omega) | exact notT (decF (by omega))) ?_ | refine kIf_F (by first | exact rfl | exact decF (by omega) | exact notF (decT (by omega))) ?_)
  unfold f69_1
  refine kmk_of (by omega) (by omega) fun w8 h8 hs8 hb8 => ?_
  have hz : zrow (Value.agg #[.int .i64 0, .bool false]).cells.toList most = (List.replicate most ((0 : Int), false)).flatMap genC := zrow_rep (F := genC) ((0 : Int), false) most
  rw [hz] at hb8
  refine kbld_of (cs := [.slice (some ⟨w.heap.size, 0, none⟩) most most, .slice none 0 0]) rfl ?_
  refine knew_of fun w11 h11 hs11 hb11 => ?_
  have hb11 : blk w11 w8.heap.size = some (.cells #[.slice (some ⟨w.heap.size, 0, none⟩) most most, .slice none 0 0] 220) := hb11
  have hp11 := h11.get hb8 (fun h => h)
  have nv : ∀ k, ¬ vblk (.slice none 0 0) k := by
    rintro k ⟨_, _, _, e⟩; cases e
  refine kL1_of most (fun i x wr => x = .int .i64 i ∧ ∃ rv, blk wr w8.heap.size = some (.cells #[.slice (some ⟨w.heap.size, 0, none⟩) most most, rv] 220) ∧ Own wr rv 1 ((List.range i).map natV) ∧ (∀ k, vblk rv k → w11.heap.size ≤ k) ∧ Mod (fun k => k = w8.heap.size ∨ w11.heap.size ≤ k) w11 wr)
    ⟨lI1_0 ⟨rfl, _, hb11, Own.nil _ _, fun k hk => absurd hk (nv k), Mod.refl _ _⟩, fun x wr hx => ?_⟩
  obtain ⟨i, hi, ⟨rfl, rv, hb, hO, hf, hm⟩, hJ⟩ := lI1_step hx
  unfold f69_2
  refine lss_at ?_
  refine kB_at ?_
  refine kIf_dec (fun hlt => ?_) (fun hge => ?_)
  · repeat (first | refine kN_at ?_ | refine kB_at ?_ | refine kfld_of ?_ | refine kext_at rfl ?_ | refine kld_at hb rfl ?_ | refine kldN_at hb rfl (by omega) ?_ | refine kG_of (by first | exact rfl | omega) ?_ | refine klen_at ?_ | refine eql_at ?_ | refine neq_at ?_ | refine lss_at ?_ | refine leq_at ?_ | refine gtr_at ?_ | refine geq_at ?_ | refine add_at (by omega) (by omega) ?_ | refine sub_at (by omega) (by omega) ?_ | refine not_at ?_ | refine kO_at ?_ | refine kprt_at rfl ?_ | refine kprtN_at rfl ?_ | refine kcap_at ?_ | refine klenStr_at ?_ | refine kN_iat ?_ | refine kN_fat ?_ | refine kIf_T (by first | exact rfl | exact decT (by omega) | exact notT (decF (by omega))) ?_ | refine kIf_F (by first | exact rfl | exact decF (by omega) | exact notF (decT (by omega))) ?_)
    refine kbldS_of (cs := [natV i]) rfl fun w16 h16 hs16 hb16 => ?_
    refine ksem_append apInt (by omega) (hO.same h16) (Src.ofSlIs (hk := slInt_is.choose_spec) 1 (SlIs.blk hb16 rfl) rfl) (by simp; omega) (by simp; omega) ?_
    intro v' w18 ho18 hm18 hf18
    have hlb := lt_of_blk hb
    have hb18 := hm18.get (h16.get hb (fun h => h)) (fun e => by have := hf _ e; omega)
    obtain ⟨a', n', c', rfl, _⟩ := ho18.is
    have hsm := hm.size
    have hs16' := h16.size
    have hf' : ∀ k, vblk (.slice a' n' c') k → w11.heap.size ≤ k := fun k hk => by
      rcases hf18 k hk with h | h
      · exact hf k h
      · omega
    repeat (first | refine kN_at ?_ | refine kB_at ?_ | refine kfld_of ?_ | refine kext_at rfl ?_ | refine kG_of (by first | exact rfl | omega) ?_ | refine klen_at ?_ | refine eql_at ?_ | refine neq_at ?_ | refine lss_at ?_ | refine leq_at ?_ | refine gtr_at ?_ | refine geq_at ?_ | refine add_at (by omega) (by omega) ?_ | refine sub_at (by omega) (by omega) ?_ | refine not_at ?_ | refine kO_at ?_ | refine kprt_at rfl ?_ | refine kprtN_at rfl ?_ | refine kcap_at ?_ | refine klenStr_at ?_ | refine kN_iat ?_ | refine kN_fat ?_ | refine kIf_T (by first | exact rfl | exact decT (by omega) | exact notT (decF (by omega))) ?_ | refine kIf_F (by first | exact rfl | exact decF (by omega) | exact notF (decT (by omega))) ?_)
    refine kst1_of hb18 rfl rfl (by simp) fun w20 h20 hs20 hb20 => ?_
    simp only [List.setIfInBounds_toArray, List.set_cons_succ, List.set_cons_zero] at hb20
    repeat (first | refine kN_at ?_ | refine kB_at ?_ | refine kfld_of ?_ | refine kext_at rfl ?_ | refine kG_of (by first | exact rfl | omega) ?_ | refine klen_at ?_ | refine eql_at ?_ | refine neq_at ?_ | refine lss_at ?_ | refine leq_at ?_ | refine gtr_at ?_ | refine geq_at ?_ | refine add_at (by omega) (by omega) ?_ | refine sub_at (by omega) (by omega) ?_ | refine not_at ?_ | refine kO_at ?_ | refine kprt_at rfl ?_ | refine kprtN_at rfl ?_ | refine kcap_at ?_ | refine klenStr_at ?_ | refine kN_iat ?_ | refine kN_fat ?_ | refine kIf_T (by first | exact rfl | exact decT (by omega) | exact notT (decF (by omega))) ?_ | refine kIf_F (by first | exact rfl | exact decF (by omega) | exact notF (decT (by omega))) ?_)
    rw [cast_succ]
    refine hJ _ _ (by omega) ⟨rfl, _, hb20, ?_, hf', ?_⟩
    · rw [List.range_succ, List.map_append]
      exact ho18.mod h20 fun k hk e => by have := hf' k hk; omega
    · exact hm.trans ((Mod.of_same h16).trans ((hm18.mono fun k _ e => .inr (hf k e)).trans (h20.mono fun k _ e => .inl e)))
  · have : i = most := by omega
    subst this
    unfold f69_5
    repeat (first | refine kN_at ?_ | refine kB_at ?_ | refine kfld_of ?_ | refine kext_at rfl ?_ | refine kld_at hb rfl ?_ | refine kldN_at hb rfl (by omega) ?_ | refine kG_of (by first | exact rfl | omega) ?_ | refine klen_at ?_ | refine eql_at ?_ | refine neq_at ?_ | refine lss_at ?_ | refine leq_at ?_ | refine gtr_at ?_ | refine geq_at ?_ | refine add_at (by omega) (by omega) ?_ | refine sub_at (by omega) (by omega) ?_ | refine not_at ?_ | refine kO_at ?_ | refine kprt_at rfl ?_ | refine kprtN_at rfl ?_ | refine kcap_at ?_ | refine klenStr_at ?_ | refine kN_iat ?_ | refine kN_fat ?_ | refine kIf_T (by first | exact rfl | exact decT (by omega) | exact notT (decF (by omega))) ?_ | refine kIf_F (by first | exact rfl | exact decF (by omega) | exact notF (decT (by omega))) ?_)
    refine kcall_of (reverse_spec hO (by simp; omega)) ?_
    rintro v w25 ⟨hr, hmr, hsr⟩
    have hlb := lt_of_blk hb
    have hbF := hmr.get hb (fun e => by have := hf _ e; omega)
    have hm25 : Mod (fun k => k = w8.heap.size ∨ w11.heap.size ≤ k) w11 w25 := hm.trans (hmr.mono fun k _ e => .inr (hf k e))
    have hpF := hm25.get hp11 (by omega)
    refine ⟨_, rollLab o w.heap.size w8.heap.size, rfl, fun k hk => by unfold rollLab; rw [if_pos hk], ⟨?_, by simpa using h, by simp, fun j hj => by simpa using hj, _, rv, hbF, ?_, hr, ?_, ?_⟩, ?_, ?_, by omega⟩
    · unfold rollLab; rw [if_neg (by omega), if_neg (by omega), if_pos rfl]
    · exact Own.blk hpF (by simp [flat_len genC 2 (fun _ => rfl)]) (by simp [maxLen]; omega)
    · rintro k ⟨_, _, _, e⟩
      cases e
      unfold rollLab; rw [if_neg (by omega), if_pos rfl]
    · intro k hk
      have := hf k hk
      unfold rollLab; rw [if_neg (by omega), if_neg (by omega), if_neg (by omega)]
    · exact (h8.trans h11).trans' (hm25.mono fun k _ e => .inr (by rcases e with e | e <;> omega))
    · intro k hk
      unfold rollLab
      rw [if_neg (by omega)]
      by_cases e1 : k = w.heap.size
      · rw [if_pos e1]; exact ⟨_, rfl, .inr (.inl rfl)⟩
      · rw [if_neg e1]
        by_cases e2 : k = w8.heap.size
        · rw [if_pos e2]; exact ⟨_, rfl, .inl rfl⟩
        · rw [if_neg e2]; exact ⟨_, rfl, .inr (.inr rfl)⟩
end Go.Proofs.YtlkpadfkmdgjcaaGreatDoor
end
section
set_option linter.unusedSimpArgs false
set_option linter.unusedVariables false
namespace Go.Proofs.YtlkpadfkmdgjcaaGreatDoor
open Go Go.Ev
set_option linter.unusedVariables false
set_option maxRecDepth 100000

/-! pasodoble/atlas.New -/
def f70_1 (x0 : Value) (Q : Value → World → Prop) (w : World) : Prop :=
  kmap w fun v7 w8 =>
  kbld [(.int .i64 0), (.slice none 0 0), (.map none)] [(0, 1, x0), (2, 1, v7)] fun v9 =>
  knew (Value.cells v9) 224 w8 fun v10 w11 =>
  kcall Tryz.prog 135 #[v10, (.int .u32 0)] w11 fun v12 w13 =>
  Q (.tuple #[v10, .nilIface]) w13

def f70_0 (x0 : Value) (x10 : Value) (Q : Value → World → Prop) (w : World) : Prop :=
  kB x10 fun b14 => kIf b14
  (kld (.pointer (some ⟨5, 0, none⟩)) w fun v4 =>
  kcall Tryz.prog 134 #[v4] w fun v5 w6 =>
  Q (.tuple #[(.pointer none), v5]) w6)
  (f70_1 x0 Q w)

def f70 (x0 : Value) (Q : Value → World → Prop) (w : World) : Prop :=
  kint .i64 .lss x0 (.int .i64 0) fun v1 =>
  kB v1 fun b2 => kIf (!b2)
  (kint .i64 .gtr x0 (.int .i64 16) fun v3 =>
  f70_0 x0 v3 Q w)
  (f70_0 x0 (.bool true) Q w)

theorem f70_eq (x0 : Value) (Q : Value → World → Prop) (w : World) : f70 x0 Q w = fnVC Tryz.prog Tryz.f70 [] (Tryz.f70.body.get rfl) [x0] w Q := by kernel_rfl
theorem f70_ok {x0 : Value} {Q : Value → World → Prop} {w : World} (h : f70 x0 Q w) : Meets Tryz.prog 70 #[x0] w Q :=
  sound (c := (Tryz.f70.body.get rfl)) [] Tryz.func70 rfl rfl (args := [x0]) rfl (Eq.mp (f70_eq x0 Q w) h)

/-! (*pasodoble/atlas.Atlas).grow -/
def f135_2 (x0 : Value) (x1 : Value) (x5 : Value) (x11 : Value) (J3 : Value → World → Prop) (Q : Value → World → Prop) (w : World) : Prop :=
  kint .i64 .add x11 (.int .i64 1) fun v11 =>
  J3 v11 w

def f135_1 (x0 : Value) (x1 : Value) (x5 : Value) (x11 : Value) (J3 : Value → World → Prop) (Q : Value → World → Prop) (w : World) : Prop :=
  kN x5 <|
  kfld 1 x5 fun v5 =>
  kix (some (.array 16 3)) (some 1) v5 x11 fun v6 =>
  kst 1 v6 (.int .i64 (-1)) w.drew fun w7 =>
  kN x5 <|
  kfld 17 x5 fun v8 =>
  kix (some (.array 16 3)) (some 1) v8 x11 fun v9 =>
  kst 1 v9 (.int .i64 (-1)) w7 fun w10 =>
  f135_2 x0 x1 x5 x11 J3 Q w10

def f135_3 (x0 : Value) (x1 : Value) (x5 : Value) (Q : Value → World → Prop) (w : World) : Prop :=
  kN x0 <|
  kfld 1 x0 fun v12 =>
  kld v12 w fun v13 =>
  klen v13 fun v14 =>
  kN x0 <|
  kfld 1 x0 fun v16 =>
  kld v16 w fun v17 =>
  kbldS [(.pointer none)] 1 [(0, 1, x5)] 232 w fun v18 w19 =>
  ksem Tryz.prog (Builtin.append_ #[222, 222] 0 #[v17, v18]) w19 fun v20 w21 =>
  kN x0 <|
  kfld 1 x0 fun v22 =>
  kst 1 v22 v20 w21 fun w23 =>
  kN x0 <|
  kfld 2 x0 fun v24 =>
  kld v24 w23 fun v25 =>
  ksemU Tryz.prog (Instr.mapUpdate 221 v25 x1 v14) w23 fun _ w27 =>
  Q v14 w27

def f135_0 (x11 : Value) (x0 : Value) (x1 : Value) (x5 : Value) (J3 : Value → World → Prop) (Q : Value → World → Prop) (w : World) : Prop :=
  kint .i64 .lss x11 (.int .i64 16) fun v4 =>
  kB v4 fun b28 => kIf b28
  (f135_1 x0 x1 x5 x11 J3 Q w)
  (f135_3 x0 x1 x5 Q w)

def f135 (x0 : Value) (x1 : Value) (Q : Value → World → Prop) (w : World) : Prop :=
  kbld [(.int .u32 0), (.int .i64 0), (.int .i64 0), (.int .i64 0), (.int .i64 0), (.int .i64 0), (.int .i64 0), (.int .i64 0), (.int .i64 0), (.int .i64 0), (.int .i64 0), (.int .i64 0), (.int .i64 0), (.int .i64 0), (.int .i64 0), (.int .i64 0), (.int .i64 0), (.int .i64 0), (.int .i64 0), (.int .i64 0), (.int .i64 0), (.int .i64 0), (.int .i64 0), (.int .i64 0), (.int .i64 0), (.int .i64 0), (.int .i64 0), (.int .i64 0), (.int .i64 0), (.int .i64 0), (.int .i64 0), (.int .i64 0), (.int .i64 0)] [(0, 1, x1)] fun v1 =>
  knew (Value.cells v1) 236 w fun v2 w3 =>
  kL fun (I : Value → World → Prop) (μ : Value → World → Nat) => I (.int .i64 0) w3 ∧ ∀ (x11 : Value) (w1 : World), I x11 w1 →
  f135_0 x11 x0 x1 v2 (fun y11 w2 => I y11 w2 ∧ μ y11 w2 < μ x11 w1) Q w1

theorem f135_eq (x0 : Value) (x1 : Value) (Q : Value → World → Prop) (w : World) : f135 x0 x1 Q w = fnVC Tryz.prog Tryz.f135 [(3, [11])] (Tryz.f135.body.get rfl) [x0, x1] w Q := by kernel_rfl
theorem f135_ok {x0 : Value} {x1 : Value} {Q : Value → World → Prop} {w : World} (h : f135 x0 x1 Q w) : Meets Tryz.prog 135 #[x0, x1] w Q :=
  sound (c := (Tryz.f135.body.get rfl)) [(3, [11])] Tryz.func135 rfl rfl (args := [x0, x1]) rfl (Eq.mp (f135_eq x0 x1 Q w) h)

/-! (*pasodoble/atlas.Atlas).At -/
def f76_1 (x0 : Value) (x1 : Value) (Q : Value → World → Prop) (w : World) : Prop :=
  kcall Tryz.prog 135 #[x0, x1] w fun v19 w20 =>
  Q (.tuple #[v19, .nilIface]) w20

def f76_0 (x0 : Value) (x1 : Value) (Q : Value → World → Prop) (w : World) : Prop :=
  kN x0 <|
  kfld 2 x0 fun v13 =>
  kld v13 w fun v14 =>
  ksem Tryz.prog (Instr.lookup 221 v14 x1 true) w fun v15 w16 =>
  kext v15 0 fun v17 =>
  kext v15 1 fun v18 =>
  kB v18 fun b21 => kIf b21
  (Q (.tuple #[v17, .nilIface]) w16)
  (f76_1 x0 x1 Q w16)

def f76 (x0 : Value) (x1 : Value) (Q : Value → World → Prop) (w : World) : Prop :=
  keq Tryz.prog .eql 127 false true x0 (.pointer none) w fun v1 w2 =>
  kB v1 fun b23 => kIf b23
  (kld (.pointer (some ⟨4, 0, none⟩)) w2 fun v3 =>
  kcall Tryz.prog 134 #[v3] w2 fun v4 w5 =>
  Q (.tuple #[(.int .i64 0), v4]) w5)
  (kN x0 <|
  kfld 0 x0 fun v6 =>
  kld v6 w2 fun v7 =>
  kint .u32 .shr x1 v7 fun v8 =>
  kint .u32 .neq v8 (.int .u32 0) fun v9 =>
  kB v9 fun b22 => kIf b22
  (kld (.pointer (some ⟨5, 0, none⟩)) w2 fun v10 =>
  kcall Tryz.prog 134 #[v10] w2 fun v11 w12 =>
  Q (.tuple #[(.int .i64 0), v11]) w12)
  (f76_0 x0 x1 Q w2))

theorem f76_eq (x0 : Value) (x1 : Value) (Q : Value → World → Prop) (w : World) : f76 x0 x1 Q w = fnVC Tryz.prog Tryz.f76 [] (Tryz.f76.body.get rfl) [x0, x1] w Q := by kernel_rfl
theorem f76_ok {x0 : Value} {x1 : Value} {Q : Value → World → Prop} {w : World} (h : f76 x0 x1 Q w) : Meets Tryz.prog 76 #[x0, x1] w Q :=
  sound (c := (Tryz.f76.body.get rfl)) [] Tryz.func76 rfl rfl (args := [x0, x1]) rfl (Eq.mp (f76_eq x0 x1 Q w) h)

/-! (*pasodoble/atlas.Atlas).node -/
def f154_1 (x0 : Value) (x1 : Value) (Q : Value → World → Prop) (w : World) : Prop :=
  kN x0 <|
  kfld 1 x0 fun v16 =>
  kld v16 w fun v17 =>
  kix (some (.slice 232)) (some 1) v17 x1 fun v18 =>
  kld v18 w fun v19 =>
  Q (.tuple #[v19, .nilIface]) w

def f154_0 (x0 : Value) (x1 : Value) (x11 : Value) (Q : Value → World → Prop) (w : World) : Prop :=
  kB x11 fun b20 => kIf b20
  (kld (.pointer (some ⟨1, 0, none⟩)) w fun v13 =>
  kcall Tryz.prog 134 #[v13] w fun v14 w15 =>
  Q (.tuple #[(.pointer none), v14]) w15)
  (f154_1 x0 x1 Q w)

def f154 (x0 : Value) (x1 : Value) (Q : Value → World → Prop) (w : World) : Prop :=
  keq Tryz.prog .eql 127 false true x0 (.pointer none) w fun v1 w2 =>
  kB v1 fun b21 => kIf b21
  (kld (.pointer (some ⟨4, 0, none⟩)) w2 fun v3 =>
  kcall Tryz.prog 134 #[v3] w2 fun v4 w5 =>
  Q (.tuple #[(.pointer none), v4]) w5)
  (kint .i64 .lss x1 (.int .i64 0) fun v6 =>
  kB v6 fun b7 => kIf (!b7)
  (kN x0 <|
  kfld 1 x0 fun v8 =>
  kld v8 w2 fun v9 =>
  klen v9 fun v10 =>
  kint .i64 .geq x1 v10 fun v12 =>
  f154_0 x0 x1 v12 Q w2)
  (f154_0 x0 x1 (.bool true) Q w2))

theorem f154_eq (x0 : Value) (x1 : Value) (Q : Value → World → Prop) (w : World) : f154 x0 x1 Q w = fnVC Tryz.prog Tryz.f154 [] (Tryz.f154.body.get rfl) [x0, x1] w Q := by kernel_rfl
theorem f154_ok {x0 : Value} {x1 : Value} {Q : Value → World → Prop} {w : World} (h : f154 x0 x1 Q w) : Meets Tryz.prog 154 #[x0, x1] w Q :=
  sound (c := (Tryz.f154.body.get rfl)) [] Tryz.func154 rfl rfl (args := [x0, x1]) rfl (Eq.mp (f154_eq x0 x1 Q w) h)

/-! (*pasodoble/atlas.Atlas).Mask -/
def f103_0 (x6 : Value) (Q : Value → World → Prop) (w : World) : Prop :=
  kN x6 <|
  kfld 0 x6 fun v7 =>
  kld v7 w fun v8 =>
  Q (.tuple #[v8, .nilIface]) w

def f103 (x0 : Value) (x1 : Value) (Q : Value → World → Prop) (w : World) : Prop :=
  kcall Tryz.prog 154 #[x0, x1] w fun v1 w2 =>
  kext v1 0 fun v3 =>
  kext v1 1 fun v4 =>
  keq Tryz.prog .neq 28 false true v4 .nilIface w2 fun v5 w6 =>
  kB v5 fun b9 => kIf b9
  (Q (.tuple #[(.int .u32 0), v4]) w6)
  (f103_0 v3 Q w6)

theorem f103_eq (x0 : Value) (x1 : Value) (Q : Value → World → Prop) (w : World) : f103 x0 x1 Q w = fnVC Tryz.prog Tryz.f103 [] (Tryz.f103.body.get rfl) [x0, x1] w Q := by kernel_rfl
theorem f103_ok {x0 : Value} {x1 : Value} {Q : Value → World → Prop} {w : World} (h : f103 x0 x1 Q w) : Meets Tryz.prog 103 #[x0, x1] w Q :=
  sound (c := (Tryz.f103.body.get rfl)) [] Tryz.func103 rfl rfl (args := [x0, x1]) rfl (Eq.mp (f103_eq x0 x1 Q w) h)

/-! (*pasodoble/atlas.Atlas).Len -/
def f136_0 (x0 : Value) (Q : Value → World → Prop) (w : World) : Prop :=
  kN x0 <|
  kfld 1 x0 fun v3 =>
  kld v3 w fun v4 =>
  klen v4 fun v5 =>
  Q v5 w

def f136 (x0 : Value) (Q : Value → World → Prop) (w : World) : Prop :=
  keq Tryz.prog .eql 127 false true x0 (.pointer none) w fun v1 w2 =>
  kB v1 fun b7 => kIf b7
  (Q (.int .i64 0) w2)
  (f136_0 x0 Q w2)

theorem f136_eq (x0 : Value) (Q : Value → World → Prop) (w : World) : f136 x0 Q w = fnVC Tryz.prog Tryz.f136 [] (Tryz.f136.body.get rfl) [x0] w Q := by kernel_rfl
theorem f136_ok {x0 : Value} {Q : Value → World → Prop} {w : World} (h : f136 x0 Q w) : Meets Tryz.prog 136 #[x0] w Q :=
  sound (c := (Tryz.f136.body.get rfl)) [] Tryz.func136 rfl rfl (args := [x0]) rfl (Eq.mp (f136_eq x0 Q w) h)

/-! (*pasodoble/atlas.Atlas).Match -/
def f78_4 (x1 : Value) (x2 : Value) (x6 : Value) (x14 : Value) (x15 : Value) (x16 : Value) (J4 : Value → Value → World → Prop) (Q : Value → World → Prop) (w : World) : Prop :=
  kint .i64 .add x16 (.int .i64 1) fun v23 =>
  J4 x6 v23 w

def f78_3 (x1 : Value) (x2 : Value) (x6 : Value) (x7 : Value) (x14 : Value) (x15 : Value) (x16 : Value) (x35 : Value) (J4 : Value → Value → World → Prop) (Q : Value → World → Prop) (w : World) : Prop :=
  kB x35 fun b24 => kIf b24
  (kbldS [(.int .i64 0)] 1 [(0, 1, x7)] 3 w fun v19 w20 =>
  ksem Tryz.prog (Builtin.append_ #[105, 105] 0 #[x6, v19]) w20 fun v21 w22 =>
  f78_4 x1 x2 v21 x14 x15 x16 J4 Q w22)
  (f78_4 x1 x2 x6 x14 x15 x16 J4 Q w)

def f78_2 (x1 : Value) (x2 : Value) (x6 : Value) (x14 : Value) (x15 : Value) (x16 : Value) (J4 : Value → Value → World → Prop) (Q : Value → World → Prop) (w : World) : Prop :=
  kix (some (.slice 232)) (some 1) x14 x16 fun v8 =>
  kld v8 w fun v9 =>
  kN v9 <|
  kfld 0 v9 fun v10 =>
  kld v10 w fun v11 =>
  kcall Tryz.prog 141 #[x1, v11] w fun v12 w13 =>
  kB v12 fun b14 => kIf b14
  (kN v9 <|
  kfld 0 v9 fun v15 =>
  kld v15 w13 fun v16 =>
  kint .u32 .and v16 x2 fun v17 =>
  kint .u32 .eql v17 (.int .u32 0) fun v18 =>
  f78_3 x1 x2 x6 x16 x14 x15 x16 v18 J4 Q w13)
  (f78_3 x1 x2 x6 x16 x14 x15 x16 (.bool false) J4 Q w13)

def f78_5 (x6 : Value) (Q : Value → World → Prop) (w : World) : Prop :=
  Q x6 w

def f78_1 (x6 : Value) (x16 : Value) (x1 : Value) (x2 : Value) (x14 : Value) (x15 : Value) (J4 : Value → Value → World → Prop) (Q : Value → World → Prop) (w : World) : Prop :=
  kint .i64 .lss x16 x15 fun v7 =>
  kB v7 fun b25 => kIf b25
  (f78_2 x1 x2 x6 x14 x15 x16 J4 Q w)
  (f78_5 x6 Q w)

def f78_0 (x0 : Value) (x1 : Value) (x2 : Value) (x6 : Value) (Q : Value → World → Prop) (w : World) : Prop :=
  kN x0 <|
  kfld 1 x0 fun v3 =>
  kld v3 w fun v4 =>
  klen v4 fun v5 =>
  kL fun (I : Value → Value → World → Prop) (μ : Value → Value → World → Nat) => I x6 (.int .i64 0) w ∧ ∀ (x6 x16 : Value) (w1 : World), I x6 x16 w1 →
  f78_1 x6 x16 x1 x2 v4 v5 (fun y6 y16 w2 => I y6 y16 w2 ∧ μ y6 y16 w2 < μ x6 x16 w1) Q w1

def f78 (x0 : Value) (x1 : Value) (x2 : Value) (Q : Value → World → Prop) (w : World) : Prop :=
  keq Tryz.prog .eql 127 false true x0 (.pointer none) w fun v1 w2 =>
  kB v1 fun b26 => kIf b26
  (Q (.slice none 0 0) w2)
  (f78_0 x0 x1 x2 (.slice none 0 0) Q w2)

theorem f78_eq (x0 : Value) (x1 : Value) (x2 : Value) (Q : Value → World → Prop) (w : World) : f78 x0 x1 x2 Q w = fnVC Tryz.prog Tryz.f78 [(4, [6, 16])] (Tryz.f78.body.get rfl) [x0, x1, x2] w Q := by kernel_rfl
theorem f78_ok {x0 : Value} {x1 : Value} {x2 : Value} {Q : Value → World → Prop} {w : World} (h : f78 x0 x1 x2 Q w) : Meets Tryz.prog 78 #[x0, x1, x2] w Q :=
  sound (c := (Tryz.f78.body.get rfl)) [(4, [6, 16])] Tryz.func78 rfl rfl (args := [x0, x1, x2]) rfl (Eq.mp (f78_eq x0 x1 x2 Q w) h)

end Go.Proofs.YtlkpadfkmdgjcaaGreatDoor
end
section
set_option linter.unusedSimpArgs false
set_option linter.unusedVariables false
namespace Go.Proofs.YtlkpadfkmdgjcaaGreatDoor
open Go Go.Ev
set_option linter.unusedVariables false
set_option linter.unusedSimpArgs false
set_option maxRecDepth 100000
attribute [local irreducible] kO kB kStr kInt kN kG kIf kfld kld kldN kst knew kmap kbld kbldS kext kcnv klenStr klen kcap kprt kprtN kbool kint kstr keq kun ksl kix kiv kta kmk kmm ksem ksemU kextf kcallV kcallM kcall kL

/-! ### The atlas -/
structure NodeM where
  mask : Nat
  wth : List Int
  wout : List Int
def NodeM.cells (x : NodeM) : List Value := msk x.mask :: (x.wth.map nV ++ x.wout.map nV)
def NodeM.new (m : Nat) : NodeM := ⟨m, List.replicate 16 (-1), List.replicate 16 (-1)⟩
def ptrV (b : Nat) : Value := .pointer (some ⟨b, 0, none⟩)
def mapM : Nat → List Nat → List (Int × Value)
  | _, [] => []
  | k, m :: r => ((m : Int), natV k) :: mapM (k + 1) r
theorem mapM_append : ∀ (k : Nat) (ms : List Nat) (m : Nat), mapM k (ms ++ [m]) = mapM k ms ++ [((m : Int), natV (k + ms.length))]
  | k, [], m => by simp [mapM]
  | k, x :: r, m => by simp [mapM, mapM_append (k + 1) r m]; congr 1; omega
theorem lk_mapM (m : Nat) : ∀ (k : Nat) (ms : List Nat), lkI (m : Int) (mapM k ms) = if m ∈ ms then some (ms.idxOf m, natV (k + ms.idxOf m)) else none
  | k, [] => by simp [mapM, lkI]
  | k, x :: r => by
    simp only [mapM, lkI]
    by_cases h : m = x
    · subst h; simp
    · rw [if_neg (by omega), lk_mapM m (k + 1) r]
      have hx : (x == m) = false := by simpa using fun e => h e.symm
      by_cases hr : m ∈ r
      · simp [hr, h, List.idxOf_cons, hx]; congr 1; omega
      · simp [hr, h]
def AtlasN (o : Lab) (w : World) (b n : Nat) (pn : Nat → Nat) (nodes : List NodeM) : Prop :=
  o b = some .atlas ∧ n ≤ 16 ∧ nodes.length ≤ 100000 ∧ ∃ nv bm, blk w b = some (.cells #[.int .i64 n, nv, .map (some bm)] 224) ∧
    Own w nv 1 ((List.range nodes.length).map fun i => ptrV (pn i)) ∧ (∀ k, vblk nv k → o k = some .nodes) ∧ o bm = some .amap ∧ MapIs w bm .u32 (mapM 0 (nodes.map (·.mask))) ∧
    ∀ i (hi : i < nodes.length), o (pn i) = some (.node i) ∧ blk w (pn i) = some (.cells (nodes[i]).cells.toArray 236) ∧ (nodes[i]).wth.length = 16 ∧ (nodes[i]).wout.length = 16 ∧ (nodes[i]).mask < 4294967296
def atlasTag (t : Tag) : Prop := t = .atlas ∨ t = .nodes ∨ t = .amap ∨ ∃ i, t = .node i
theorem AtlasN.frame {o o' : Lab} {w w' : World} {b n : Nat} {pn : Nat → Nat} {nodes : List NodeM} (h : AtlasN o w b n pn nodes) {fp : Nat → Prop} (hm : Mod fp w w') (hf : ∀ k t, o k = some t → atlasTag t → ¬ fp k) (ho : LabEq w o o') : AtlasN o' w' b n pn nodes := by
  obtain ⟨h1, h2, h3, nv, bm, hb, hO, hl, hbm, hM, hN⟩ := h
  refine ⟨by rw [ho b (lt_of_blk hb)]; exact h1, h2, h3, nv, bm, hm.get hb (hf b _ h1 (.inl rfl)), hO.mod hm fun k hk => hf k _ (hl k hk) (.inr (.inl rfl)), fun k hk => by rw [ho k (hO.vblk_lt hk)]; exact hl k hk, by rw [ho bm (lt_of_blk hM)]; exact hbm, hM.mod hm (hf bm _ hbm (.inr (.inr (.inl rfl)))), fun i hi => ?_⟩
  obtain ⟨g1, g2, g3⟩ := hN i hi
  exact ⟨by rw [ho _ (lt_of_blk g2)]; exact g1, hm.get g2 (hf _ _ g1 (.inr (.inr (.inr ⟨i, rfl⟩)))), g3⟩
theorem AtlasN.same {o : Lab} {w w' : World} {b n : Nat} {pn : Nat → Nat} {nodes : List NodeM} (h : AtlasN o w b n pn nodes) (hm : Same w w') : AtlasN o w' b n pn nodes := h.frame hm (fun _ _ _ _ h => h) (LabEq.refl _ _)
theorem ptAtl : isPtrT Tryz.prog 127 = true := by kernel_rfl
theorem apNode : appT Tryz.prog 222 1 8 = true := by kernel_rfl
theorem slNode_is : ∃ e, Tryz.prog.underlying 222 = some (.slice e) := slT_of (by kernel_rfl)
def nodeC (m j : Nat) : List Value := msk m :: ((List.replicate j (nV (-1)) ++ List.replicate (16 - j) (nV 0)) ++ (List.replicate j (nV (-1)) ++ List.replicate (16 - j) (nV 0)))
theorem nodeC_step (m j : Nat) (h : j < 16) : setAll [nV (-1)] (setAll [nV (-1)] (nodeC m j).toArray (1 + j)) (17 + j) = (nodeC m (j + 1)).toArray := by
  have hj : j = 0 ∨ j = 1 ∨ j = 2 ∨ j = 3 ∨ j = 4 ∨ j = 5 ∨ j = 6 ∨ j = 7 ∨ j = 8 ∨ j = 9 ∨ j = 10 ∨ j = 11 ∨ j = 12 ∨ j = 13 ∨ j = 14 ∨ j = 15 := by omega
  rcases hj with rfl | rfl | rfl | rfl | rfl | rfl | rfl | rfl | rfl | rfl | rfl | rfl | rfl | rfl | rfl | rfl <;> rfl
theorem nodeC_16 (m : Nat) : nodeC m 16 = (NodeM.new m).cells := rfl
theorem nodeC_len (m j : Nat) (h : j ≤ 16) : (nodeC m j).length = 33 := by
  simp [nodeC]; omega
def updN (f : Nat → Nat) (n v i : Nat) : Nat := if i = n then v else f i
theorem updN_same (f : Nat → Nat) (n v : Nat) : updN f n v n = v := if_pos rfl
theorem updN_ne (f : Nat → Nat) {n v i : Nat} (h : i ≠ n) : updN f n v i = f i := if_neg h
def growLab (o : Lab) (b0 nb k1 i : Nat) : Lab := fun k => if k < b0 then o k else if k = nb then some (.node i) else if k < k1 then none else some .nodes
theorem grow_spec {o : Lab} {w : World} {b n : Nat} {pn : Nat → Nat} {nodes : List NodeM} (h : AtlasN o w b n pn nodes) (m : Nat) (hm32 : m < 4294967296) (hnew : m ∉ nodes.map (·.mask)) (hlen : nodes.length < 100000) :
    Meets Tryz.prog 135 #[ptrV b, msk m] w fun v w' => v = natV nodes.length ∧ ∃ o' pn', LabEq w o o' ∧ (∀ i, i < nodes.length → pn' i = pn i) ∧ AtlasN o' w' b n pn' (nodes ++ [NodeM.new m]) ∧ Mod (FP o atlasTag) w w' := by
  obtain ⟨h1, h2, h3, nv, bm, hb, hO, hl, hbm, hM, hN⟩ := id h
  have lb := lt_of_blk hb
  have lbm := lt_of_blk hM
  have nbm : bm ≠ b := fun e => by rw [e, h1] at hbm; cases hbm
  refine f135_ok ?_
  unfold f135
  refine kbld_of (cs := nodeC m 0) rfl ?_
  refine knew_of fun w3 hm3 hs3 hb3 => ?_
  have hb3 : blk w3 w.heap.size = some (.cells (nodeC m 0).toArray 236) := hb3
  refine kL1_of 16 (fun j x wr => x = .int .i64 j ∧ j ≤ 16 ∧ blk wr w.heap.size = some (.cells (nodeC m j).toArray 236) ∧ Mod (fun k => k = w.heap.size) w3 wr ∧ wr.heap.size = w3.heap.size) ⟨lI1_0 ⟨rfl, by omega, hb3, Mod.refl _ _, rfl⟩, fun x wr hx => ?_⟩
  obtain ⟨j, hj, ⟨rfl, _, hbr, hmr, hsr⟩, hJ⟩ := lI1_step hx
  unfold f135_0
  refine lss_at ?_
  refine kB_at ?_
  refine kIf_dec (fun hlt => ?_) (fun hge => ?_)
  · have hlt : j < 16 := by omega
    have hlen := nodeC_len m j hj
    unfold f135_1
    have hbr : blk wr.drew w.heap.size = _ := hbr
    have hmr := hmr.drew
    have hsr : wr.drew.heap.size = _ := hsr
    generalize wr.drew = wa at *
    repeat (first | refine kN_at ?_ | refine kB_at ?_ | refine kfld_of ?_ | refine kext_at rfl ?_ | refine kG_of (by first | exact rfl | omega) ?_ | refine klen_at ?_ | refine eql_at ?_ | refine neq_at ?_ | refine lss_at ?_ | refine leq_at ?_ | refine gtr_at ?_ | refine geq_at ?_ | refine add_at (by omega) (by omega) ?_ | refine sub_at (by omega) (by omega) ?_ | refine not_at ?_ | refine kO_at ?_ | refine kprt_at rfl ?_ | refine kprtN_at rfl ?_ | refine kcap_at ?_ | refine klenStr_at ?_ | refine kN_iat ?_ | refine kN_fat ?_ | refine kIf_T (by first | exact rfl | exact decT (by omega) | exact notT (decF (by omega))) ?_ | refine kIf_F (by first | exact rfl | exact decF (by omega) | exact notF (decT (by omega))) ?_)
    rw [kix_array]
    refine kG_of (by omega) ?_
    rw [add_mk, Int.toNat_natCast, Nat.mul_one, Nat.zero_add]
    refine kst_of (vs := [nV (-1)]) hbr rfl rfl rfl (by simp [hlen]; omega) (by simp) fun w7 h7 hs7 hb7 => ?_
    repeat (first | refine kN_at ?_ | refine kB_at ?_ | refine kfld_of ?_ | refine kext_at rfl ?_ | refine kG_of (by first | exact rfl | omega) ?_ | refine klen_at ?_ | refine eql_at ?_ | refine neq_at ?_ | refine lss_at ?_ | refine leq_at ?_ | refine gtr_at ?_ | refine geq_at ?_ | refine add_at (by omega) (by omega) ?_ | refine sub_at (by omega) (by omega) ?_ | refine not_at ?_ | refine kO_at ?_ | refine kprt_at rfl ?_ | refine kprtN_at rfl ?_ | refine kcap_at ?_ | refine klenStr_at ?_ | refine kN_iat ?_ | refine kN_fat ?_ | refine kIf_T (by first | exact rfl | exact decT (by omega) | exact notT (decF (by omega))) ?_ | refine kIf_F (by first | exact rfl | exact decF (by omega) | exact notF (decT (by omega))) ?_)
    rw [kix_array]
    refine kG_of (by omega) ?_
    rw [add_mk, Int.toNat_natCast, Nat.mul_one, Nat.zero_add]
    refine kst_of (vs := [nV (-1)]) hb7 rfl rfl rfl (by rw [setAll_size]; simp [hlen]; omega) (by simp) fun w10 h10 hs10 hb10 => ?_
    rw [nodeC_step m j hlt] at hb10
    repeat (first | refine kN_at ?_ | refine kB_at ?_ | refine kfld_of ?_ | refine kext_at rfl ?_ | refine kG_of (by first | exact rfl | omega) ?_ | refine klen_at ?_ | refine eql_at ?_ | refine neq_at ?_ | refine lss_at ?_ | refine leq_at ?_ | refine gtr_at ?_ | refine geq_at ?_ | refine add_at (by omega) (by omega) ?_ | refine sub_at (by omega) (by omega) ?_ | refine not_at ?_ | refine kO_at ?_ | refine kprt_at rfl ?_ | refine kprtN_at rfl ?_ | refine kcap_at ?_ | refine klenStr_at ?_ | refine kN_iat ?_ | refine kN_fat ?_ | refine kIf_T (by first | exact rfl | exact decT (by omega) | exact notT (decF (by omega))) ?_ | refine kIf_F (by first | exact rfl | exact decF (by omega) | exact notF (decT (by omega))) ?_)
    rw [cast_succ]
    exact hJ _ _ hlt ⟨rfl, by omega, hb10, hmr.trans (h7.trans h10), by omega⟩
  · have : j = 16 := by omega
    subst this
    rw [nodeC_16] at hbr
    clear hJ hx
    have mr : Same w wr := hm3.trans' (hmr.mono fun k _ e => .inr (by omega))
    have hba := mr.get hb (fun h => h)
    obtain ⟨na, nn, nc, rfl, hns, hnn⟩ := hO.is
    have hnn : nn = nodes.length := by simpa using hnn rfl
    subst hnn
    unfold f135_3
    repeat (first | refine kN_at ?_ | refine kB_at ?_ | refine kfld_of ?_ | refine kext_at rfl ?_ | refine kld_at hba rfl ?_ | refine kldN_at hba rfl (by omega) ?_ | refine kG_of (by first | exact rfl | omega) ?_ | refine klen_at ?_ | refine eql_at ?_ | refine neq_at ?_ | refine lss_at ?_ | refine leq_at ?_ | refine gtr_at ?_ | refine geq_at ?_ | refine add_at (by omega) (by omega) ?_ | refine sub_at (by omega) (by omega) ?_ | refine not_at ?_ | refine kO_at ?_ | refine kprt_at rfl ?_ | refine kprtN_at rfl ?_ | refine kcap_at ?_ | refine klenStr_at ?_ | refine kN_iat ?_ | refine kN_fat ?_ | refine kIf_T (by first | exact rfl | exact decT (by omega) | exact notT (decF (by omega))) ?_ | refine kIf_F (by first | exact rfl | exact decF (by omega) | exact notF (decT (by omega))) ?_)
    refine kbldS_of (cs := [ptrV w.heap.size]) rfl fun w19 h19 hs19 hb19 => ?_
    have hO19 := (hO.same mr).same h19
    refine ksem_append apNode (by omega) hO19 (Src.ofSlIs (hk := slNode_is.choose_spec) 1 (SlIs.blk hb19 rfl) rfl) (by simp; omega) (by simp; omega) ?_
    intro v' w21 ho21 hm21 hf21
    have hb21 := hm21.get (h19.get hba (fun h => h)) (fun e => by have := hl b e; rw [h1] at this; cases this)
    obtain ⟨a', n', c', rfl, _⟩ := ho21.is
    repeat (first | refine kN_at ?_ | refine kB_at ?_ | refine kfld_of ?_ | refine kext_at rfl ?_ | refine kG_of (by first | exact rfl | omega) ?_ | refine klen_at ?_ | refine eql_at ?_ | refine neq_at ?_ | refine lss_at ?_ | refine leq_at ?_ | refine gtr_at ?_ | refine geq_at ?_ | refine add_at (by omega) (by omega) ?_ | refine sub_at (by omega) (by omega) ?_ | refine not_at ?_ | refine kO_at ?_ | refine kprt_at rfl ?_ | refine kprtN_at rfl ?_ | refine kcap_at ?_ | refine klenStr_at ?_ | refine kN_iat ?_ | refine kN_fat ?_ | refine kIf_T (by first | exact rfl | exact decT (by omega) | exact notT (decF (by omega))) ?_ | refine kIf_F (by first | exact rfl | exact decF (by omega) | exact notF (decT (by omega))) ?_)
    refine kst1_of hb21 rfl rfl (by simp) fun w23 h23 hs23 hb23 => ?_
    simp only [List.setIfInBounds_toArray, List.set_cons_succ, List.set_cons_zero] at hb23
    repeat (first | refine kN_at ?_ | refine kB_at ?_ | refine kfld_of ?_ | refine kext_at rfl ?_ | refine kld_at hb23 rfl ?_ | refine kldN_at hb23 rfl (by omega) ?_ | refine kG_of (by first | exact rfl | omega) ?_ | refine klen_at ?_ | refine eql_at ?_ | refine neq_at ?_ | refine lss_at ?_ | refine leq_at ?_ | refine gtr_at ?_ | refine geq_at ?_ | refine add_at (by omega) (by omega) ?_ | refine sub_at (by omega) (by omega) ?_ | refine not_at ?_ | refine kO_at ?_ | refine kprt_at rfl ?_ | refine kprtN_at rfl ?_ | refine kcap_at ?_ | refine klenStr_at ?_ | refine kN_iat ?_ | refine kN_fat ?_ | refine kIf_T (by first | exact rfl | exact decT (by omega) | exact notT (decF (by omega))) ?_ | refine kIf_F (by first | exact rfl | exact decF (by omega) | exact notF (decT (by omega))) ?_)
    have hsmr := mr.size
    have hs19' := h19.size
    have hs21' := hm21.size
    have hnv : ∀ k, vblk (.slice a' n' c') k → vblk (.slice na nodes.length nc) k ∨ w19.heap.size ≤ k := hf21
    have hMm : Mod (fun k => k = b ∨ vblk (.slice na nodes.length nc) k) w w23 := (Mod.of_same (mr.trans h19)).trans ((hm21.mono fun k _ e => .inr e).trans (h23.mono fun k _ e => .inl e))
    have hM23 : MapIs w23 bm .u32 (mapM 0 (nodes.map (·.mask))) := hM.mod hMm fun e => by
      rcases e with e | e
      · exact nbm e
      · have := hl _ e; rw [hbm] at this; cases this
    have hlk : lkI (m : Int) (mapM 0 (nodes.map (·.mask))) = none := by rw [lk_mapM, if_neg hnew]
    refine kmapUp_of Tryz.underlying221 Tryz.underlying24 hM23 hlk fun w27 h27 hs27 hM27 => ?_
    have hb27 := h27.get hb23 nbm.symm
    have hnode23 : blk w23 w.heap.size = some (.cells (NodeM.new m).cells.toArray 236) := h23.get (hm21.get (h19.get hbr (fun h => h)) (fun e => by have := hO.vblk_lt e; omega)) (by omega)
    have hall : Mod (FP o atlasTag) w w27 := (hMm.mono fun k _ e => by
      rcases e with rfl | e
      · exact ⟨_, h1, .inl rfl⟩
      · exact ⟨_, hl k e, .inr (.inl rfl)⟩).trans (h27.mono fun k _ e => by
      subst e
      exact ⟨_, hbm, .inr (.inr (.inl rfl))⟩)
    refine ⟨rfl, growLab o w.heap.size w.heap.size w19.heap.size nodes.length, updN pn nodes.length w.heap.size, fun k hk => by unfold growLab; rw [if_pos hk], fun i hi => updN_ne _ (by omega), ⟨by unfold growLab; rw [if_pos lb]; exact h1, h2, by simp; omega, _, bm, hb27, ?_, ?_, by unfold growLab; rw [if_pos lbm]; exact hbm, ?_, ?_⟩, hall⟩
    · have e : (List.range (nodes ++ [NodeM.new m]).length).map (fun i => ptrV (updN pn nodes.length w.heap.size i)) = (List.range nodes.length).map (fun i => ptrV (pn i)) ++ [ptrV w.heap.size] := by
        rw [List.length_append, List.length_cons, List.length_nil, List.range_succ, List.map_append, List.map_cons, List.map_nil, updN_same]
        congr 1
        apply List.map_congr_left
        intro i hi
        rw [updN_ne _ (by simp at hi; omega)]
      rw [e]
      refine (ho21.mod h23 fun k hk e => ?_).mod h27 fun k hk e => ?_
      · subst e
        rcases hnv _ hk with h | h
        · have := hl _ h; rw [h1] at this; cases this
        · omega
      · subst e
        rcases hnv _ hk with h | h
        · have := hl _ h; rw [hbm] at this; cases this
        · omega
    · intro k hk
      unfold growLab
      rcases hnv k hk with h | h
      · have := hO.vblk_lt h
        rw [if_pos (by omega)]; exact hl k h
      · rw [if_neg (by omega), if_neg (by omega), if_neg (by omega)]
    · rw [List.map_append, List.map_cons, List.map_nil, mapM_append]
      have e : 0 + (nodes.map (·.mask)).length = nodes.length := by simp
      rw [e]
      exact hM27
    · intro i hi
      simp only [List.length_append, List.length_cons, List.length_nil] at hi
      by_cases hlast : i = nodes.length
      · subst hlast
        rw [updN_same]
        have e : (nodes ++ [NodeM.new m])[nodes.length]'(by simp) = NodeM.new m := by simp
        simp only [e]
        exact ⟨by unfold growLab; rw [if_neg (by omega), if_pos rfl], h27.get hnode23 (by omega), rfl, rfl, hm32⟩
      · have hi' : i < nodes.length := by omega
        rw [updN_ne _ hlast]
        have e : (nodes ++ [NodeM.new m])[i]'(by simp; omega) = nodes[i] := by rw [List.getElem_append_left hi']
        simp only [e]
        obtain ⟨g1, g2, g3⟩ := hN i hi'
        have hlt := lt_of_blk g2
        refine ⟨by unfold growLab; rw [if_pos hlt]; exact g1, h27.get (hMm.get g2 ?_) ?_, g3⟩
        · rintro (e | e)
          · rw [e, h1] at g1; cases g1
          · have := hl _ e; rw [g1] at this; cases this
        · intro e
          rw [e, hbm] at g1; cases g1
end Go.Proofs.YtlkpadfkmdgjcaaGreatDoor
end
section
set_option linter.unusedSimpArgs false
set_option linter.unusedVariables false
namespace Go.Proofs.YtlkpadfkmdgjcaaGreatDoor
open Go Go.Ev
set_option linter.unusedVariables false
set_option linter.unusedSimpArgs false
set_option maxRecDepth 100000
attribute [local irreducible] kO kB kStr kInt kN kG kIf kfld kld kldN kst knew kmap kbld kbldS kext kcnv klenStr klen kcap kprt kprtN kbool kint kstr keq kun ksl kix kiv kta kmk kmm ksem ksemU kextf kcallV kcallM kcall kL

def addM (ms : List Nat) (m : Nat) : List Nat := if m ∈ ms then ms else ms ++ [m]
theorem addM_mem (ms : List Nat) (m : Nat) : m ∈ addM ms m := by
  unfold addM; split
  · assumption
  · simp
theorem mz_int : zeroO Tryz.prog 3 = some (.int .i64 0) := by kernel_rfl
theorem shr_mask {m n : Nat} (hm : m < 4294967296) (hn : n ≤ 16) : ishr .u32 (m : Int) (n : Int) = ((m / 2 ^ n : Nat) : Int) := shr_nat m n (by show n ≤ 32; omega)
theorem atAt_spec {o : Lab} {w : World} {b n : Nat} {pn : Nat → Nat} {nodes : List NodeM} (h : AtlasN o w b n pn nodes) (m : Nat) (hm : m < 2 ^ n) (hlen : nodes.length < 100000) :
    Meets Tryz.prog 76 #[ptrV b, msk m] w fun v w' => ∃ o' pn' nodes', v = .tuple #[natV ((nodes'.map (·.mask)).idxOf m), .nilIface] ∧ LabEq w o o' ∧ (∀ i, i < nodes.length → pn' i = pn i) ∧ AtlasN o' w' b n pn' nodes' ∧ Mod (FP o atlasTag) w w' ∧
      (nodes' = nodes ∧ m ∈ nodes.map (·.mask) ∨ nodes' = nodes ++ [NodeM.new m] ∧ m ∉ nodes.map (·.mask)) := by
  obtain ⟨h1, h2, h3, nv, bm, hb, hO, hl, hbm, hM, hN⟩ := id h
  have h16 : m < 4294967296 := by
    have : 2 ^ n ≤ 2 ^ 16 := Nat.pow_le_pow_right (by omega) h2
    omega
  refine f76_ok ?_
  unfold f76
  rw [ptrV, keq_ptr_nil ptAtl]
  repeat (first | refine kN_at ?_ | refine kB_at ?_ | refine kfld_of ?_ | refine kext_at rfl ?_ | refine kld_at hb rfl ?_ | refine kldN_at hb rfl (by omega) ?_ | refine kG_of (by first | exact rfl | omega) ?_ | refine klen_at ?_ | refine eql_at ?_ | refine neq_at ?_ | refine lss_at ?_ | refine leq_at ?_ | refine gtr_at ?_ | refine geq_at ?_ | refine add_at (by omega) (by omega) ?_ | refine sub_at (by omega) (by omega) ?_ | refine not_at ?_ | refine kO_at ?_ | refine kprt_at rfl ?_ | refine kprtN_at rfl ?_ | refine kcap_at ?_ | refine klenStr_at ?_ | refine kN_iat ?_ | refine kN_fat ?_ | refine kIf_T (by first | exact rfl | exact decT (by omega) | exact notT (decF (by omega))) ?_ | refine kIf_F (by first | exact rfl | exact decF (by omega) | exact notF (decT (by omega))) ?_)
  rw [msk, kint_shr]
  refine kG_of (by omega) ?_
  rw [shr_mask h16 h2, Nat.div_eq_of_lt hm]
  repeat (first | refine kN_at ?_ | refine kB_at ?_ | refine kfld_of ?_ | refine kext_at rfl ?_ | refine kld_at hb rfl ?_ | refine kldN_at hb rfl (by omega) ?_ | refine kG_of (by first | exact rfl | omega) ?_ | refine klen_at ?_ | refine eql_at ?_ | refine neq_at ?_ | refine lss_at ?_ | refine leq_at ?_ | refine gtr_at ?_ | refine geq_at ?_ | refine add_at (by omega) (by omega) ?_ | refine sub_at (by omega) (by omega) ?_ | refine not_at ?_ | refine kO_at ?_ | refine kprt_at rfl ?_ | refine kprtN_at rfl ?_ | refine kcap_at ?_ | refine klenStr_at ?_ | refine kN_iat ?_ | refine kN_fat ?_ | refine kIf_T (by first | exact rfl | exact decT (by omega) | exact notT (decF (by omega))) ?_ | refine kIf_F (by first | exact rfl | exact decF (by omega) | exact notF (decT (by omega))) ?_)
  by_cases hin : m ∈ nodes.map (·.mask)
  · refine klookOk_of Tryz.underlying221 Tryz.underlying24 mz_int hM (r := some (_, _)) (by rw [lk_mapM, if_pos hin]) ?_
    repeat (first | refine kN_at ?_ | refine kB_at ?_ | refine kfld_of ?_ | refine kext_at rfl ?_ | refine kG_of (by first | exact rfl | omega) ?_ | refine klen_at ?_ | refine eql_at ?_ | refine neq_at ?_ | refine lss_at ?_ | refine leq_at ?_ | refine gtr_at ?_ | refine geq_at ?_ | refine add_at (by omega) (by omega) ?_ | refine sub_at (by omega) (by omega) ?_ | refine not_at ?_ | refine kO_at ?_ | refine kprt_at rfl ?_ | refine kprtN_at rfl ?_ | refine kcap_at ?_ | refine klenStr_at ?_ | refine kN_iat ?_ | refine kN_fat ?_ | refine kIf_T (by first | exact rfl | exact decT (by omega) | exact notT (decF (by omega))) ?_ | refine kIf_F (by first | exact rfl | exact decF (by omega) | exact notF (decT (by omega))) ?_)
    refine ⟨o, pn, nodes, by simp [natV], LabEq.refl _ _, fun _ _ => rfl, h, Mod.refl _ _, .inl ⟨rfl, hin⟩⟩
  · refine klookOk_of Tryz.underlying221 Tryz.underlying24 mz_int hM (r := none) (by rw [lk_mapM, if_neg hin]) ?_
    repeat (first | refine kN_at ?_ | refine kB_at ?_ | refine kfld_of ?_ | refine kext_at rfl ?_ | refine kG_of (by first | exact rfl | omega) ?_ | refine klen_at ?_ | refine eql_at ?_ | refine neq_at ?_ | refine lss_at ?_ | refine leq_at ?_ | refine gtr_at ?_ | refine geq_at ?_ | refine add_at (by omega) (by omega) ?_ | refine sub_at (by omega) (by omega) ?_ | refine not_at ?_ | refine kO_at ?_ | refine kprt_at rfl ?_ | refine kprtN_at rfl ?_ | refine kcap_at ?_ | refine klenStr_at ?_ | refine kN_iat ?_ | refine kN_fat ?_ | refine kIf_T (by first | exact rfl | exact decT (by omega) | exact notT (decF (by omega))) ?_ | refine kIf_F (by first | exact rfl | exact decF (by omega) | exact notF (decT (by omega))) ?_)
    refine kcall_of (grow_spec h m h16 hin hlen) ?_
    rintro v w' ⟨rfl, o', pn', g1, g2, g3, g4⟩
    repeat (first | refine kN_at ?_ | refine kB_at ?_ | refine kfld_of ?_ | refine kext_at rfl ?_ | refine kG_of (by first | exact rfl | omega) ?_ | refine klen_at ?_ | refine eql_at ?_ | refine neq_at ?_ | refine lss_at ?_ | refine leq_at ?_ | refine gtr_at ?_ | refine geq_at ?_ | refine add_at (by omega) (by omega) ?_ | refine sub_at (by omega) (by omega) ?_ | refine not_at ?_ | refine kO_at ?_ | refine kprt_at rfl ?_ | refine kprtN_at rfl ?_ | refine kcap_at ?_ | refine klenStr_at ?_ | refine kN_iat ?_ | refine kN_fat ?_ | refine kIf_T (by first | exact rfl | exact decT (by omega) | exact notT (decF (by omega))) ?_ | refine kIf_F (by first | exact rfl | exact decF (by omega) | exact notF (decT (by omega))) ?_)
    refine ⟨o', pn', _, ?_, g1, g2, g3, g4, .inr ⟨rfl, hin⟩⟩
    rw [List.map_append, List.idxOf_append, if_neg hin]
    simp [NodeM.new]
theorem node_spec {o : Lab} {w : World} {b n : Nat} {pn : Nat → Nat} {nodes : List NodeM} (h : AtlasN o w b n pn nodes) (i : Nat) (hi : i < nodes.length) :
    Meets Tryz.prog 154 #[ptrV b, .int .i64 i] w fun v w' => v = .tuple #[ptrV (pn i), .nilIface] ∧ w' = w := by
  obtain ⟨h1, h2, h3, nv, bm, hb, hO, hl, hbm, hM, hN⟩ := id h
  obtain ⟨na, nn, nc, rfl, hns, hnn⟩ := hO.is
  have hnn : nn = nodes.length := by simpa using hnn rfl
  subst hnn
  refine f154_ok ?_
  unfold f154
  rw [ptrV, keq_ptr_nil ptAtl]
  repeat (first | refine kN_at ?_ | refine kB_at ?_ | refine kfld_of ?_ | refine kext_at rfl ?_ | refine kld_at hb rfl ?_ | refine kldN_at hb rfl (by omega) ?_ | refine kG_of (by first | exact rfl | omega) ?_ | refine klen_at ?_ | refine eql_at ?_ | refine neq_at ?_ | refine lss_at ?_ | refine leq_at ?_ | refine gtr_at ?_ | refine geq_at ?_ | refine add_at (by omega) (by omega) ?_ | refine sub_at (by omega) (by omega) ?_ | refine not_at ?_ | refine kO_at ?_ | refine kprt_at rfl ?_ | refine kprtN_at rfl ?_ | refine kcap_at ?_ | refine klenStr_at ?_ | refine kN_iat ?_ | refine kN_fat ?_ | refine kIf_T (by first | exact rfl | exact decT (by omega) | exact notT (decF (by omega))) ?_ | refine kIf_F (by first | exact rfl | exact decF (by omega) | exact notF (decT (by omega))) ?_)
  have hns' : SlIs w na (List.range nodes.length).length 1 ((List.range nodes.length).map fun i => ptrV (pn i)) := by simpa using hns
  have e : nodes.length = (List.range nodes.length).length := by simp
  rw [e]
  refine kixld_of (F := fun i => ptrV (pn i)) hns' (by simpa using hi) rfl ?_
  simp [ptrV]
theorem mask_spec {o : Lab} {w : World} {b n : Nat} {pn : Nat → Nat} {nodes : List NodeM} (h : AtlasN o w b n pn nodes) (i : Nat) (hi : i < nodes.length) :
    Meets Tryz.prog 103 #[ptrV b, .int .i64 i] w fun v w' => v = .tuple #[msk (nodes[i]).mask, .nilIface] ∧ w' = w := by
  obtain ⟨h1, h2, h3, nv, bm, hb, hO, hl, hbm, hM, hN⟩ := id h
  obtain ⟨g1, g2, g3⟩ := hN i hi
  refine f103_ok ?_
  unfold f103
  refine kcall_of (node_spec h i hi) ?_
  rintro v w' ⟨rfl, rfl⟩
  repeat (first | refine kN_at ?_ | refine kB_at ?_ | refine kfld_of ?_ | refine kext_at rfl ?_ | refine kG_of (by first | exact rfl | omega) ?_ | refine klen_at ?_ | refine eql_at ?_ | refine neq_at ?_ | refine lss_at ?_ | refine leq_at ?_ | refine gtr_at ?_ | refine geq_at ?_ | refine add_at (by omega) (by omega) ?_ | refine sub_at (by omega) (by omega) ?_ | refine not_at ?_ | refine kO_at ?_ | refine kprt_at rfl ?_ | refine kprtN_at rfl ?_ | refine kcap_at ?_ | refine klenStr_at ?_ | refine kN_iat ?_ | refine kN_fat ?_ | refine kIf_T (by first | exact rfl | exact decT (by omega) | exact notT (decF (by omega))) ?_ | refine kIf_F (by first | exact rfl | exact decF (by omega) | exact notF (decT (by omega))) ?_)
  rw [keq_nil_nil' ifErr]
  rw [ptrV]
  repeat (first | refine kN_at ?_ | refine kB_at ?_ | refine kfld_of ?_ | refine kext_at rfl ?_ | refine kld_at g2 rfl ?_ | refine kldN_at g2 rfl (by omega) ?_ | refine kG_of (by first | exact rfl | omega) ?_ | refine klen_at ?_ | refine eql_at ?_ | refine neq_at ?_ | refine lss_at ?_ | refine leq_at ?_ | refine gtr_at ?_ | refine geq_at ?_ | refine add_at (by omega) (by omega) ?_ | refine sub_at (by omega) (by omega) ?_ | refine not_at ?_ | refine kO_at ?_ | refine kprt_at rfl ?_ | refine kprtN_at rfl ?_ | refine kcap_at ?_ | refine klenStr_at ?_ | refine kN_iat ?_ | refine kN_fat ?_ | refine kIf_T (by first | exact rfl | exact decT (by omega) | exact notT (decF (by omega))) ?_ | refine kIf_F (by first | exact rfl | exact decF (by omega) | exact notF (decT (by omega))) ?_)
  exact ⟨rfl, rfl⟩
theorem len_spec {o : Lab} {w : World} {b n : Nat} {pn : Nat → Nat} {nodes : List NodeM} (h : AtlasN o w b n pn nodes) :
    Meets Tryz.prog 136 #[ptrV b] w fun v w' => v = natV nodes.length ∧ w' = w := by
  obtain ⟨h1, h2, h3, nv, bm, hb, hO, hl, hbm, hM, hN⟩ := id h
  obtain ⟨na, nn, nc, rfl, hns, hnn⟩ := hO.is
  have hnn : nn = nodes.length := by simpa using hnn rfl
  subst hnn
  refine f136_ok ?_
  unfold f136
  rw [ptrV, keq_ptr_nil ptAtl]
  repeat (first | refine kN_at ?_ | refine kB_at ?_ | refine kfld_of ?_ | refine kext_at rfl ?_ | refine kld_at hb rfl ?_ | refine kldN_at hb rfl (by omega) ?_ | refine kG_of (by first | exact rfl | omega) ?_ | refine klen_at ?_ | refine eql_at ?_ | refine neq_at ?_ | refine lss_at ?_ | refine leq_at ?_ | refine gtr_at ?_ | refine geq_at ?_ | refine add_at (by omega) (by omega) ?_ | refine sub_at (by omega) (by omega) ?_ | refine not_at ?_ | refine kO_at ?_ | refine kprt_at rfl ?_ | refine kprtN_at rfl ?_ | refine kcap_at ?_ | refine klenStr_at ?_ | refine kN_iat ?_ | refine kN_fat ?_ | refine kIf_T (by first | exact rfl | exact decT (by omega) | exact notT (decF (by omega))) ?_ | refine kIf_F (by first | exact rfl | exact decF (by omega) | exact notF (decT (by omega))) ?_)
  exact ⟨rfl, rfl⟩
def atlasLab (o : Lab) (bm b k : Nat) : Option Tag := if k < bm then o k else if k = bm then some .amap else some .atlas
theorem aNew_spec (o : Lab) (ho : ∀ k t, o k = some t → ¬ atlasTag t) (w : World) (n : Nat) (hn : n ≤ 16) : Meets Tryz.prog 70 #[.int .i64 n] w fun v w' =>
    ∃ b o' pn, v = .tuple #[ptrV b, .nilIface] ∧ LabEq w o o' ∧ AtlasN o' w' b n pn [NodeM.new 0] ∧ Same w w' := by
  refine f70_ok ?_
  unfold f70
  repeat (first | refine kN_at ?_ | refine kB_at ?_ | refine kfld_of ?_ | refine kext_at rfl ?_ | refine kG_of (by first | exact rfl | omega) ?_ | refine klen_at ?_ | refine eql_at ?_ | refine neq_at ?_ | refine lss_at ?_ | refine leq_at ?_ | refine gtr_at ?_ | refine geq_at ?_ | refine add_at (by omega) (by omega) ?_ | refine sub_at (by omega) (by omega) ?_ | refine not_at ?_ | refine kO_at ?_ | refine kprt_at rfl ?_ | refine kprtN_at rfl ?_ | refine kcap_at ?_ | refine klenStr_at ?_ | refine kN_iat ?_ | refine kN_fat ?_ | refine kIf_T (by first | exact rfl | exact decT (by omega) | exact notT (decF (by omega))) ?_ | refine kIf_F (by first | exact rfl | exact decF (by omega) | exact notF (decT (by omega))) ?_)
  unfold f70_1
  refine kmap_of fun w8 h8 hs8 hm8 => ?_
  refine kbld_of (cs := [.int .i64 n, .slice none 0 0, .map (some w.heap.size)]) rfl ?_
  refine knew_of fun w11 h11 hs11 hb11 => ?_
  have hb11 : blk w11 w8.heap.size = some (.cells #[.int .i64 n, .slice none 0 0, .map (some w.heap.size)] 224) := hb11
  have hA : AtlasN (atlasLab o w.heap.size w8.heap.size) w11 w8.heap.size n (fun _ => 0) [] :=
    ⟨by unfold atlasLab; rw [if_neg (by omega), if_neg (by omega)], hn, by simp, _, _, hb11, Own.nil _ _, (fun k hk => by obtain ⟨_, _, _, e⟩ := hk; cases e), by unfold atlasLab; rw [if_neg (by omega), if_pos rfl], (hm8 .u32).same h11, (fun i hi => by simp at hi)⟩
  refine kcall_of (grow_spec hA 0 (by decide) (by simp) (by decide)) ?_
  rintro v w13 ⟨rfl, o', pn', g1, g2, g3, g4⟩
  refine ⟨_, o', pn', rfl, fun k hk => ?_, g3, (h8.trans h11).trans' (g4.mono fun k hlt hk => ?_)⟩
  · rw [g1 k (by omega)]
    unfold atlasLab
    rw [if_pos hk]
  · right
    obtain ⟨t, e1, e2⟩ := hk
    rcases Nat.lt_or_ge k w.heap.size with hk2 | hk2
    · unfold atlasLab at e1
      rw [if_pos hk2] at e1
      exact absurd e2 (ho k t e1)
    · exact hk2
/-! ### Edges -/
/-- What an edge remembers, if anything, is where it leads. -/
def EdgeOk (n : Nat) (masks : List Nat) (x : NodeM) : Prop := ∀ c, c < n → (x.wth[c]? = some (-1) ∨ ∃ t : Nat, x.wth[c]? = some (t : Int) ∧ masks[t]? = some (x.mask ||| 2 ^ c)) ∧ (x.wout[c]? = some (-1) ∨ ∃ t : Nat, x.wout[c]? = some (t : Int) ∧ masks[t]? = some (andN x.mask (2 ^ c)))
theorem EdgeOk.grow {n : Nat} {masks : List Nat} {x : NodeM} (h : EdgeOk n masks x) (m : Nat) : EdgeOk n (addM masks m) x := by
  have hg : ∀ t k : Nat, masks[t]? = some k → (addM masks m)[t]? = some k := by
    intro t k ht
    unfold addM
    split
    · exact ht
    · rw [List.getElem?_append_left (List.getElem?_eq_some_iff.1 ht).1]; exact ht
  intro c hc
  obtain ⟨h1, h2⟩ := h c hc
  refine ⟨h1.imp id ?_, h2.imp id ?_⟩
  · rintro ⟨t, e1, e2⟩; exact ⟨t, e1, hg t _ e2⟩
  · rintro ⟨t, e1, e2⟩; exact ⟨t, e1, hg t _ e2⟩
theorem EdgeOk.new (n : Nat) (hn : n ≤ 16) (masks : List Nat) (m : Nat) : EdgeOk n masks (NodeM.new m) := by
  intro c hc
  have : c < 16 := by omega
  have e : (List.replicate 16 (-1 : Int))[c]? = some (-1) := by rw [List.getElem?_replicate, if_pos this]
  exact ⟨.inl e, .inl e⟩
/-- The atlas of these sets. -/
def AtlasAt (o : Lab) (w : World) (b n : Nat) (masks : List Nat) : Prop := ∃ pn nodes, AtlasN o w b n pn nodes ∧ nodes.map (·.mask) = masks ∧ masks.Nodup ∧ (∀ x ∈ nodes, EdgeOk n masks x) ∧ ∀ m ∈ masks, m < 2 ^ n
theorem AtlasAt.frame {o o' : Lab} {w w' : World} {b n : Nat} {masks : List Nat} (h : AtlasAt o w b n masks) {fp : Nat → Prop} (hm : Mod fp w w') (hf : ∀ k t, o k = some t → atlasTag t → ¬ fp k) (ho : LabEq w o o') : AtlasAt o' w' b n masks := by
  obtain ⟨pn, nodes, h1, h2⟩ := h
  exact ⟨pn, nodes, h1.frame hm hf ho, h2⟩
theorem AtlasAt.same {o : Lab} {w w' : World} {b n : Nat} {masks : List Nat} (h : AtlasAt o w b n masks) (hm : Same w w') : AtlasAt o w' b n masks := h.frame hm (fun _ _ _ _ h => h) (LabEq.refl _ _)
theorem addM_nodup {ms : List Nat} (h : ms.Nodup) (m : Nat) : (addM ms m).Nodup := by
  unfold addM; split
  · exact h
  · rw [List.nodup_append]
    refine ⟨h, by simp, ?_⟩
    intro a ha b hb
    have : b = m := by simpa using hb
    subst this
    rintro rfl
    contradiction
theorem addM_of {nodes nodes' : List NodeM} {m : Nat} (h : nodes' = nodes ∧ m ∈ nodes.map (·.mask) ∨ nodes' = nodes ++ [NodeM.new m] ∧ m ∉ nodes.map (·.mask)) : nodes'.map (·.mask) = addM (nodes.map (·.mask)) m := by
  unfold addM
  rcases h with ⟨rfl, h⟩ | ⟨rfl, h⟩
  · rw [if_pos h]
  · rw [if_neg h]; simp [NodeM.new]
theorem addM_lt {n : Nat} {ms : List Nat} {m : Nat} (h : ∀ x ∈ ms, x < 2 ^ n) (hm : m < 2 ^ n) : ∀ x ∈ addM ms m, x < 2 ^ n := by
  intro x hx
  unfold addM at hx
  split at hx
  · exact h x hx
  · rcases List.mem_append.1 hx with h1 | h1
    · exact h x h1
    · have : x = m := by simpa using h1
      omega
theorem at_spec {o : Lab} {w : World} {b n : Nat} {masks : List Nat} (h : AtlasAt o w b n masks) (m : Nat) (hm : m < 2 ^ n) (hlen : masks.length < 100000) :
    Meets Tryz.prog 76 #[ptrV b, msk m] w fun v w' => v = .tuple #[natV ((addM masks m).idxOf m), .nilIface] ∧ ∃ o', LabEq w o o' ∧ AtlasAt o' w' b n (addM masks m) ∧ Mod (FP o atlasTag) w w' := by
  obtain ⟨pn, nodes, hN, rfl, hnd, hE, hlt⟩ := h
  have hn := hN.2.1
  refine (atAt_spec hN m hm (by simpa using hlen)).mono ?_
  rintro v w' ⟨o', pn', nodes', rfl, g1, g2, g3, g4, g5⟩
  have e := addM_of g5
  refine ⟨by rw [e], o', g1, ⟨pn', nodes', g3, e, addM_nodup hnd m, ?_, addM_lt hlt hm⟩, g4⟩
  intro x hx
  rcases g5 with ⟨rfl, _⟩ | ⟨rfl, _⟩
  · exact (hE x hx).grow m
  · rcases List.mem_append.1 hx with h1 | h1
    · exact (hE x h1).grow m
    · have : x = NodeM.new m := by simpa using h1
      subst this
      exact EdgeOk.new n hn _ m
theorem maskAt_spec {o : Lab} {w : World} {b n : Nat} {masks : List Nat} (h : AtlasAt o w b n masks) (i : Nat) (hi : i < masks.length) :
    Meets Tryz.prog 103 #[ptrV b, .int .i64 i] w fun v w' => v = .tuple #[msk masks[i], .nilIface] ∧ w' = w := by
  obtain ⟨pn, nodes, hN, rfl, _⟩ := h
  refine (mask_spec hN i (by simpa using hi)).mono ?_
  rintro v w' ⟨rfl, rfl⟩
  simp
theorem lenAt_spec {o : Lab} {w : World} {b n : Nat} {masks : List Nat} (h : AtlasAt o w b n masks) :
    Meets Tryz.prog 136 #[ptrV b] w fun v w' => v = natV masks.length ∧ w' = w := by
  obtain ⟨pn, nodes, hN, rfl, _⟩ := h
  refine (len_spec hN).mono ?_
  rintro v w' ⟨rfl, rfl⟩
  simp
theorem newAt_spec (o : Lab) (ho : ∀ k t, o k = some t → ¬ atlasTag t) (w : World) (n : Nat) (hn : n ≤ 16) : Meets Tryz.prog 70 #[.int .i64 n] w fun v w' =>
    ∃ b o', v = .tuple #[ptrV b, .nilIface] ∧ LabEq w o o' ∧ AtlasAt o' w' b n [0] ∧ Same w w' := by
  refine (aNew_spec o ho w n hn).mono ?_
  rintro v w' ⟨b, o', pn, rfl, g1, g2, g3⟩
  refine ⟨b, o', rfl, g1, ⟨pn, _, g2, rfl, by simp, ?_, ?_⟩, g3⟩
  · intro x hx
    have : x = NodeM.new 0 := by simpa using hx
    subst this
    exact EdgeOk.new n hn _ 0
  · intro m hm
    have : m = 0 := by simpa using hm
    subst this
    exact Nat.two_pow_pos n
end Go.Proofs.YtlkpadfkmdgjcaaGreatDoor
end
section
set_option linter.unusedSimpArgs false
set_option linter.unusedVariables false
namespace Go.Proofs.YtlkpadfkmdgjcaaGreatDoor
open Go Go.Ev
set_option linter.unusedVariables false
set_option linter.unusedSimpArgs false
set_option maxRecDepth 100000
attribute [local irreducible] kO kB kStr kInt kN kG kIf kfld kld kldN kst knew kmap kbld kbldS kext kcnv klenStr klen kcap kprt kprtN kbool kint kstr keq kun ksl kix kiv kta kmk kmm ksem ksemU kextf kcallV kcallM kcall kL

theorem bitF_nat {c : Nat} (h : c < 32) : bitF (c : Int) = 2 ^ c := by unfold bitF; rw [if_neg (by omega), if_neg (by omega)]; rfl
end Go.Proofs.YtlkpadfkmdgjcaaGreatDoor
end
section
set_option linter.unusedSimpArgs false
set_option linter.unusedVariables false
namespace Go.Proofs.YtlkpadfkmdgjcaaGreatDoor
open Go Go.Ev
set_option linter.unusedVariables false
set_option linter.unusedSimpArgs false
set_option maxRecDepth 100000
attribute [local irreducible] kO kB kStr kInt kN kG kIf kfld kld kldN kst knew kmap kbld kbldS kext kcnv klenStr klen kcap kprt kprtN kbool kint kstr keq kun ksl kix kiv kta kmk kmm ksem ksemU kextf kcallV kcallM kcall kL

def matchP (wi wo m : Nat) : Bool := decide (andN wi m = 0) && decide (m &&& wo = 0)
def matchL (wi wo : Nat) (masks : List Nat) : List Nat := (masks.zipIdx.filter fun x => matchP wi wo x.1).map (·.2)
theorem matchL_snoc (wi wo : Nat) (masks : List Nat) (i : Nat) (h : i < masks.length) : matchL wi wo (masks.take (i + 1)) = if matchP wi wo masks[i] = true then matchL wi wo (masks.take i) ++ [i] else matchL wi wo (masks.take i) := by
  unfold matchL
  rw [List.take_add_one, List.getElem?_eq_getElem h, List.zipIdx_append]
  have hl : (masks.take i).length = i := by rw [List.length_take]; omega
  by_cases hc : matchP wi wo masks[i] = true
  · simp [hc, hl]
  · simp [hc]
theorem matchL_len (wi wo : Nat) (masks : List Nat) : (matchL wi wo masks).length ≤ masks.length := by
  unfold matchL
  rw [List.length_map]
  have := List.length_filter_le (fun x : Nat × Nat => matchP wi wo x.1) masks.zipIdx
  simpa using this
theorem aMatch_spec {o : Lab} {w : World} {b n : Nat} {masks : List Nat} (h : AtlasAt o w b n masks) (wi wo : Nat) (hwi : wi < 4294967296) (hwo : wo < 4294967296) :
    Meets Tryz.prog 78 #[ptrV b, msk wi, msk wo] w fun v w' => Own w' v 1 ((matchL wi wo masks).map natV) ∧ Same w w' ∧ (∀ k, vblk v k → w.heap.size ≤ k) := by
  obtain ⟨pn, nodes, hN, rfl, hnd, hE, hlt⟩ := h
  obtain ⟨h1, h2, h3, nv, bm, hb, hO, hl, hbm, hM, hNs⟩ := id hN
  obtain ⟨na, nn, nc, rfl, hns, hnn⟩ := hO.is
  have hnn : nn = (List.range nodes.length).length := by simpa using hnn rfl
  subst hnn
  refine f78_ok ?_
  unfold f78
  rw [ptrV, keq_ptr_nil ptAtl]
  repeat (first | refine kN_at ?_ | refine kB_at ?_ | refine kfld_of ?_ | refine kext_at rfl ?_ | refine kld_at hb rfl ?_ | refine kldN_at hb rfl (by omega) ?_ | refine kG_of (by first | exact rfl | omega) ?_ | refine klen_at ?_ | refine eql_at ?_ | refine neq_at ?_ | refine lss_at ?_ | refine leq_at ?_ | refine gtr_at ?_ | refine geq_at ?_ | refine add_at (by omega) (by omega) ?_ | refine sub_at (by omega) (by omega) ?_ | refine not_at ?_ | refine kO_at ?_ | refine kprt_at rfl ?_ | refine kprtN_at rfl ?_ | refine kcap_at ?_ | refine klenStr_at ?_ | refine kN_iat ?_ | refine kN_fat ?_ | refine kIf_T (by first | exact rfl | exact decT (by omega) | exact notT (decF (by omega))) ?_ | refine kIf_F (by first | exact rfl | exact decF (by omega) | exact notF (decT (by omega))) ?_)
  refine kL2_of nodes.length (fun j x y wr => y = .int .i64 j ∧ Own wr x 1 ((matchL wi wo ((nodes.map (·.mask)).take j)).map natV) ∧ Same w wr ∧ (∀ k, vblk x k → w.heap.size ≤ k)) ⟨lI2_0 ⟨rfl, Own.nil _ _, Mod.refl _ _, fun k hk => by obtain ⟨_, _, _, e⟩ := hk; cases e⟩, fun x y wr hx => ?_⟩
  obtain ⟨j, hj, ⟨rfl, hOx, hm, hf⟩, hJ⟩ := lI2_step hx
  unfold f78_1
  refine lss_at ?_
  refine kB_at ?_
  refine kIf_dec (fun hlt2 => ?_) (fun hge => ?_)
  · have hlt2 : j < nodes.length := by simp at hlt2; omega
    have hlen := matchL_len wi wo ((nodes.map (·.mask)).take j)
    rw [List.length_take, List.length_map] at hlen
    obtain ⟨gi1, gi2, gi3, gi4, gi5⟩ := hNs j hlt2
    have hg := hm.get gi2 (fun h => h)
    have hsn := matchL_snoc wi wo (nodes.map (·.mask)) j (by simpa using hlt2)
    have hmj : (nodes.map (·.mask))[j]'(by simpa using hlt2) = (nodes[j]).mask := by simp
    rw [hmj] at hsn
    unfold f78_2
    refine kixld_of (F := fun i => ptrV (pn i)) (hns.same hm) (show j < (List.range nodes.length).length by simpa using hlt2) rfl ?_
    rw [List.getElem_range]
    rw [ptrV]
    repeat (first | refine kN_at ?_ | refine kB_at ?_ | refine kfld_of ?_ | refine kext_at rfl ?_ | refine kld_at hg rfl ?_ | refine kldN_at hg rfl (by omega) ?_ | refine kG_of (by first | exact rfl | omega) ?_ | refine klen_at ?_ | refine eql_at ?_ | refine neq_at ?_ | refine lss_at ?_ | refine leq_at ?_ | refine gtr_at ?_ | refine geq_at ?_ | refine add_at (by omega) (by omega) ?_ | refine sub_at (by omega) (by omega) ?_ | refine not_at ?_ | refine kO_at ?_ | refine kprt_at rfl ?_ | refine kprtN_at rfl ?_ | refine kcap_at ?_ | refine klenStr_at ?_ | refine kN_iat ?_ | refine kN_fat ?_ | refine kIf_T (by first | exact rfl | exact decT (by omega) | exact notT (decF (by omega))) ?_ | refine kIf_F (by first | exact rfl | exact decF (by omega) | exact notF (decT (by omega))) ?_)
    refine kcall_of (within_spec wi (nodes[j]).mask hwi gi5 wr) ?_
    rintro v w13 ⟨rfl, rfl⟩
    refine kB_at ?_
    refine kIf_dec (fun hc1 => ?_) (fun hc1 => ?_)
    · repeat (first | refine kN_at ?_ | refine kB_at ?_ | refine kfld_of ?_ | refine kext_at rfl ?_ | refine kld_at hg rfl ?_ | refine kldN_at hg rfl (by omega) ?_ | refine kG_of (by first | exact rfl | omega) ?_ | refine klen_at ?_ | refine eql_at ?_ | refine neq_at ?_ | refine lss_at ?_ | refine leq_at ?_ | refine gtr_at ?_ | refine geq_at ?_ | refine add_at (by omega) (by omega) ?_ | refine sub_at (by omega) (by omega) ?_ | refine not_at ?_ | refine kO_at ?_ | refine kprt_at rfl ?_ | refine kprtN_at rfl ?_ | refine kcap_at ?_ | refine klenStr_at ?_ | refine kN_iat ?_ | refine kN_fat ?_ | refine kIf_T (by first | exact rfl | exact decT (by omega) | exact notT (decF (by omega))) ?_ | refine kIf_F (by first | exact rfl | exact decF (by omega) | exact notF (decT (by omega))) ?_)
      rw [msk, msk, kint_and, u32_and gi5 hwo]
      refine eql_at ?_
      unfold f78_3
      refine kB_at ?_
      refine kIf_dec (fun hc2 => ?_) (fun hc2 => ?_)
      · have hp : matchP wi wo (nodes[j]).mask = true := by
          unfold matchP
          rw [decT hc1, decT (show (nodes[j]).mask &&& wo = 0 by omega)]; rfl
        refine kbldS_of (cs := [natV j]) rfl fun w5 h5' hs5 hb5 => ?_
        refine ksem_append apInt (by omega) (hOx.same h5') (Src.ofSlIs (hk := slInt_is.choose_spec) 1 (SlIs.blk hb5 rfl) rfl) (by simp; omega) (by simp; omega) ?_
        intro v' w7 ho7 hm7 hf7
        repeat (first | refine kN_at ?_ | refine kB_at ?_ | refine kfld_of ?_ | refine kext_at rfl ?_ | refine kG_of (by first | exact rfl | omega) ?_ | refine klen_at ?_ | refine eql_at ?_ | refine neq_at ?_ | refine lss_at ?_ | refine leq_at ?_ | refine gtr_at ?_ | refine geq_at ?_ | refine add_at (by omega) (by omega) ?_ | refine sub_at (by omega) (by omega) ?_ | refine not_at ?_ | refine kO_at ?_ | refine kprt_at rfl ?_ | refine kprtN_at rfl ?_ | refine kcap_at ?_ | refine klenStr_at ?_ | refine kN_iat ?_ | refine kN_fat ?_ | refine kIf_T (by first | exact rfl | exact decT (by omega) | exact notT (decF (by omega))) ?_ | refine kIf_F (by first | exact rfl | exact decF (by omega) | exact notF (decT (by omega))) ?_)
        rw [cast_succ]
        refine hJ _ _ _ hlt2 ⟨rfl, ?_, Mod.after (hm.trans h5') hm7 hf, fun k hk => ?_⟩
        · rw [hsn, if_pos hp, List.map_append]
          exact ho7
        · rcases hf7 k hk with h | h
          · exact hf k h
          · have := hm.size; have := h5'.size; omega
      · have hp : ¬ matchP wi wo (nodes[j]).mask = true := by
          unfold matchP
          rw [decF (show ¬ (nodes[j]).mask &&& wo = 0 by omega)]; simp
        repeat (first | refine kN_at ?_ | refine kB_at ?_ | refine kfld_of ?_ | refine kext_at rfl ?_ | refine kG_of (by first | exact rfl | omega) ?_ | refine klen_at ?_ | refine eql_at ?_ | refine neq_at ?_ | refine lss_at ?_ | refine leq_at ?_ | refine gtr_at ?_ | refine geq_at ?_ | refine add_at (by omega) (by omega) ?_ | refine sub_at (by omega) (by omega) ?_ | refine not_at ?_ | refine kO_at ?_ | refine kprt_at rfl ?_ | refine kprtN_at rfl ?_ | refine kcap_at ?_ | refine klenStr_at ?_ | refine kN_iat ?_ | refine kN_fat ?_ | refine kIf_T (by first | exact rfl | exact decT (by omega) | exact notT (decF (by omega))) ?_ | refine kIf_F (by first | exact rfl | exact decF (by omega) | exact notF (decT (by omega))) ?_)
        rw [cast_succ]
        refine hJ _ _ _ hlt2 ⟨rfl, ?_, hm, hf⟩
        rw [hsn, if_neg hp]
        exact hOx
    · have hp : ¬ matchP wi wo (nodes[j]).mask = true := by
        unfold matchP
        rw [decF hc1]; simp
      unfold f78_3
      repeat (first | refine kN_at ?_ | refine kB_at ?_ | refine kfld_of ?_ | refine kext_at rfl ?_ | refine kG_of (by first | exact rfl | omega) ?_ | refine klen_at ?_ | refine eql_at ?_ | refine neq_at ?_ | refine lss_at ?_ | refine leq_at ?_ | refine gtr_at ?_ | refine geq_at ?_ | refine add_at (by omega) (by omega) ?_ | refine sub_at (by omega) (by omega) ?_ | refine not_at ?_ | refine kO_at ?_ | refine kprt_at rfl ?_ | refine kprtN_at rfl ?_ | refine kcap_at ?_ | refine klenStr_at ?_ | refine kN_iat ?_ | refine kN_fat ?_ | refine kIf_T (by first | exact rfl | exact decT (by omega) | exact notT (decF (by omega))) ?_ | refine kIf_F (by first | exact rfl | exact decF (by omega) | exact notF (decT (by omega))) ?_)
      rw [cast_succ]
      refine hJ _ _ _ hlt2 ⟨rfl, ?_, hm, hf⟩
      rw [hsn, if_neg hp]
      exact hOx
  · have : j = nodes.length := by simp at hge; omega
    subst this
    have e : (nodes.map (·.mask)).take nodes.length = nodes.map (·.mask) := List.take_of_length_le (by simp)
    rw [e] at hOx
    unfold f78_5
    exact ⟨hOx, hm, hf⟩
end Go.Proofs.YtlkpadfkmdgjcaaGreatDoor
end
section
set_option linter.unusedSimpArgs false
set_option linter.unusedVariables false
namespace Go.Proofs.YtlkpadfkmdgjcaaGreatDoor
open Go Go.Ev
set_option linter.unusedVariables false
set_option maxRecDepth 100000

/-! pasodoble/store.New -/
def f12_3 (x1 : Value) (x7 : Value) (x9 : Value) (x10 : Value) (Q : Value → World → Prop) (w : World) : Prop :=
  kldN 2 x10 w.drew fun v42 =>
  kG (w.drew = w.drew) <|
  kmk (.agg #[(.int .i64 0), (.int .i64 0)]) 16 153 x1 x1 w.drew fun v43 w44 =>
  kG (kldN 2 x10 w44 fun v50 =>
  v50 = v42 ∧ w44 = w44) <|
  kbld [(.pointer none), (.slice none 0 0), (.slice none 0 0), (.pointer none), (.slice none 0 0), (.slice none 0 0)] [(0, 1, x7), (1, 2, v42), (3, 1, x9), (5, 1, v43)] fun v45 =>
  knew (Value.cells v45) 139 w44 fun v46 w47 =>
  kcall Tryz.prog 73 #[v46] w47 fun v48 w49 =>
  Q (.tuple #[v46, v48]) w49

def f12_2 (x1 : Value) (x2 : Value) (x7 : Value) (x9 : Value) (Q : Value → World → Prop) (w : World) : Prop :=
  (kfld 0 x2 fun v30 =>
  kld v30 w.drew fun v31 =>
  kG (w.drew = w.drew) <|
  kcall Tryz.prog 71 #[v31] w.drew fun v32 w33 =>
  (kfld 1 x2 fun v34 =>
  kld v34 w33 fun v35 =>
  kG (w33 = w33) <|
  kG (kld v34 w.drew fun v53 =>
  v53 = v35 ∧ w.drew = w.drew) <|
  kcall Tryz.prog 72 #[v35] w33 fun v36 w37 =>
  knew #[(.slice none 0 0), (.slice none 0 0)] 34 w37 fun v38 w39 =>
  kG (kld v34 w39 fun v52 =>
  v52 = v35 ∧ w39 = w39) <|
  kG (kld v30 w39 fun v51 =>
  v51 = v31 ∧ w39 = w39) <|
  kbld [(.slice none 0 0), (.slice none 0 0)] [(0, 1, v32), (1, 1, v36)] fun v40 =>
  kst 2 v38 v40 w39 fun w41 =>
  f12_3 x1 x7 x9 v38 Q w41) ∧
  (knew #[(.slice none 0 0), (.slice none 0 0)] 34 w33 fun v54 w55 =>
  kG (kld v30 w55 fun v64 =>
  v64 = v31 ∧ w55 = w55) <|
  kfld 1 x2 fun v56 =>
  kld v56 w55 fun v57 =>
  kG (w55 = w55) <|
  kG (kld v56 w33 fun v63 =>
  v63 = v57 ∧ w33 = w33) <|
  kG (kld v56 w.drew fun v62 =>
  v62 = v57 ∧ w.drew = w.drew) <|
  kcall Tryz.prog 72 #[v57] w55 fun v58 w59 =>
  kbld [(.slice none 0 0), (.slice none 0 0)] [(0, 1, v32), (1, 1, v58)] fun v60 =>
  kst 2 v54 v60 w59 fun w61 =>
  f12_3 x1 x7 x9 v54 Q w61)) ∧
  (knew #[(.slice none 0 0), (.slice none 0 0)] 34 w.drew fun v65 w66 =>
  kfld 0 x2 fun v67 =>
  kld v67 w66 fun v68 =>
  kG (w66 = w66) <|
  kG (kld v67 w.drew fun v79 =>
  v79 = v68 ∧ w.drew = w.drew) <|
  kcall Tryz.prog 71 #[v68] w66 fun v69 w70 =>
  kfld 1 x2 fun v71 =>
  kld v71 w70 fun v72 =>
  kG (w70 = w70) <|
  kG (kld v71 w66 fun v78 =>
  v78 = v72 ∧ w66 = w66) <|
  kG (kld v71 w.drew fun v77 =>
  v77 = v72 ∧ w.drew = w.drew) <|
  kcall Tryz.prog 72 #[v72] w70 fun v73 w74 =>
  kbld [(.slice none 0 0), (.slice none 0 0)] [(0, 1, v69), (1, 1, v73)] fun v75 =>
  kst 2 v65 v75 w74 fun w76 =>
  f12_3 x1 x7 x9 v65 Q w76)

def f12_1 (x1 : Value) (x2 : Value) (x7 : Value) (Q : Value → World → Prop) (w : World) : Prop :=
  kfld 0 x2 fun v18 =>
  kld v18 w fun v19 =>
  klen v19 fun v20 =>
  kcall Tryz.prog 70 #[v20] w fun v22 w23 =>
  kext v22 0 fun v24 =>
  kext v22 1 fun v25 =>
  keq Tryz.prog .neq 28 false true v25 .nilIface w23 fun v26 w27 =>
  kB v26 fun b80 => kIf b80
  (kcall Tryz.prog 68 #[v25] w27 fun v28 w29 =>
  Q (.tuple #[(.pointer none), v28]) w29)
  (f12_2 x1 x2 x7 v24 Q w27)

def f12_0 (x1 : Value) (x2 : Value) (Q : Value → World → Prop) (w : World) : Prop :=
  kcall Tryz.prog 69 #[x1] w fun v10 w11 =>
  kext v10 0 fun v12 =>
  kext v10 1 fun v13 =>
  keq Tryz.prog .neq 28 false true v13 .nilIface w11 fun v14 w15 =>
  kB v14 fun b81 => kIf b81
  (kcall Tryz.prog 68 #[v13] w15 fun v16 w17 =>
  Q (.tuple #[(.pointer none), v16]) w17)
  (f12_1 x1 x2 v12 Q w15)

def f12 (x0 : Value) (x1 : Value) (Q : Value → World → Prop) (w : World) : Prop :=
  knew (Value.cells x0) 34 w fun v1 w2 =>
  kldN 2 v1 w2 fun v3 =>
  kcall Tryz.prog 67 #[v3] w2 fun v4 w5 =>
  keq Tryz.prog .neq 28 false true v4 .nilIface w5 fun v6 w7 =>
  kB v6 fun b82 => kIf b82
  (kcall Tryz.prog 68 #[v4] w7 fun v8 w9 =>
  Q (.tuple #[(.pointer none), v8]) w9)
  (f12_0 x1 v1 Q w7)

theorem f12_eq (x0 : Value) (x1 : Value) (Q : Value → World → Prop) (w : World) : f12 x0 x1 Q w = fnVC Tryz.prog Tryz.f12 [] (Tryz.f12.body.get rfl) [x0, x1] w Q := by kernel_rfl
theorem f12_ok {x0 : Value} {x1 : Value} {Q : Value → World → Prop} {w : World} (h : f12 x0 x1 Q w) : Meets Tryz.prog 12 #[x0, x1] w Q :=
  sound (c := (Tryz.f12.body.get rfl)) [] Tryz.func12 rfl rfl (args := [x0, x1]) rfl (Eq.mp (f12_eq x0 x1 Q w) h)

/-! (*pasodoble/store.Store).lay -/
def f73_6 (x0 : Value) (x3 : Value) (x6 : Value) (x41 : Value) (x42 : Value) (x43 : Value) (J9 : Value → World → Prop) (J2 : Value → World → Prop) (Q : Value → World → Prop) (w : World) : Prop :=
  kint .i64 .add x43 (.int .i64 1) fun v46 =>
  J9 v46 w

def f73_5 (x0 : Value) (x3 : Value) (x6 : Value) (x8 : Value) (x9 : Value) (x41 : Value) (x42 : Value) (x43 : Value) (J9 : Value → World → Prop) (J2 : Value → World → Prop) (Q : Value → World → Prop) (w : World) : Prop :=
  kN x6 <|
  kfld 1 x6 fun v42 =>
  kld v42 w fun v43 =>
  ksemU Tryz.prog (Instr.mapUpdate 147 v43 x8 x9) w fun _ w45 =>
  f73_6 x0 x3 x6 x41 x42 x43 J9 J2 Q w45

def f73_4 (x0 : Value) (x3 : Value) (x6 : Value) (x41 : Value) (x42 : Value) (x43 : Value) (J9 : Value → World → Prop) (J2 : Value → World → Prop) (Q : Value → World → Prop) (w : World) : Prop :=
  kix (some (.slice 3)) (some 1) x41 x43 fun v28 =>
  kld v28 w fun v29 =>
  kN x0 <|
  kfld 1 x0 fun v30 =>
  kfld 0 v30 fun v31 =>
  kld v31 w fun v32 =>
  kix (some (.slice 132)) (some 7) v32 v29 fun v33 =>
  kfld 1 v33 fun v34 =>
  kld v34 w fun v35 =>
  kcall Tryz.prog 138 #[v29, v35] w fun v36 w37 =>
  kext v36 0 fun v38 =>
  kext v36 1 fun v39 =>
  keq Tryz.prog .neq 28 false true v39 .nilIface w37 fun v40 w41 =>
  kB v40 fun b47 => kIf b47
  (Q v39 w41)
  (f73_5 x0 x3 x6 v29 v38 x41 x42 x43 J9 J2 Q w41)

def f73_8 (x0 : Value) (x3 : Value) (J2 : Value → World → Prop) (Q : Value → World → Prop) (w : World) : Prop :=
  kint .i64 .add x3 (.int .i64 1) fun v56 =>
  J2 v56 w

def f73_7 (x0 : Value) (x3 : Value) (x6 : Value) (J2 : Value → World → Prop) (Q : Value → World → Prop) (w : World) : Prop :=
  kN x0 <|
  kfld 4 x0 fun v48 =>
  kld v48 w fun v49 =>
  kbldS [(.pointer none)] 1 [(0, 1, x6)] 150 w fun v50 w51 =>
  ksem Tryz.prog (Builtin.append_ #[137, 137] 0 #[v49, v50]) w51 fun v52 w53 =>
  kN x0 <|
  kfld 4 x0 fun v54 =>
  kst 1 v54 v52 w53 fun w55 =>
  f73_8 x0 x3 J2 Q w55

def f73_3 (x43 : Value) (x0 : Value) (x3 : Value) (x6 : Value) (x41 : Value) (x42 : Value) (J9 : Value → World → Prop) (J2 : Value → World → Prop) (Q : Value → World → Prop) (w : World) : Prop :=
  kint .i64 .lss x43 x42 fun v27 =>
  kB v27 fun b57 => kIf b57
  (f73_4 x0 x3 x6 x41 x42 x43 J9 J2 Q w)
  (f73_7 x0 x3 x6 J2 Q w)

def f73_2 (x0 : Value) (x3 : Value) (x4 : Value) (J2 : Value → World → Prop) (Q : Value → World → Prop) (w : World) : Prop :=
  kmap w fun v18 w19 =>
  kbld [(.slice none 0 0), (.map none)] [(1, 1, v18)] fun v20 =>
  knew (Value.cells v20) 149 w19 fun v21 w22 =>
  kcall Tryz.prog 137 #[x4] w22 fun v23 w24 =>
  klen v23 fun v25 =>
  kL fun (I : Value → World → Prop) (μ : Value → World → Nat) => I (.int .i64 0) w24 ∧ ∀ (x43 : Value) (w1 : World), I x43 w1 →
  f73_3 x43 x0 x3 v21 v23 v25 (fun y43 w2 => I y43 w2 ∧ μ y43 w2 < μ x43 w1) J2 Q w1

def f73_1 (x0 : Value) (x3 : Value) (J2 : Value → World → Prop) (Q : Value → World → Prop) (w : World) : Prop :=
  kN x0 <|
  kfld 3 x0 fun v10 =>
  kld v10 w fun v11 =>
  kcall Tryz.prog 103 #[v11, x3] w fun v12 w13 =>
  kext v12 0 fun v14 =>
  kext v12 1 fun v15 =>
  keq Tryz.prog .neq 28 false true v15 .nilIface w13 fun v16 w17 =>
  kB v16 fun b58 => kIf b58
  (Q v15 w17)
  (f73_2 x0 x3 v14 J2 Q w17)

def f73_9 (Q : Value → World → Prop) (w : World) : Prop :=
  Q .nilIface w

def f73_0 (x3 : Value) (x0 : Value) (J2 : Value → World → Prop) (Q : Value → World → Prop) (w : World) : Prop :=
  kN x0 <|
  kfld 3 x0 fun v5 =>
  kld v5 w fun v6 =>
  kcall Tryz.prog 136 #[v6] w fun v7 w8 =>
  kint .i64 .lss x3 v7 fun v9 =>
  kB v9 fun b59 => kIf b59
  (f73_1 x0 x3 J2 Q w8)
  (f73_9 Q w8)

def f73 (x0 : Value) (Q : Value → World → Prop) (w : World) : Prop :=
  kN x0 <|
  kfld 4 x0 fun v1 =>
  kld v1 w fun v2 =>
  klen v2 fun v3 =>
  kL fun (I : Value → World → Prop) (μ : Value → World → Nat) => I v3 w ∧ ∀ (x3 : Value) (w1 : World), I x3 w1 →
  f73_0 x3 x0 (fun y3 w2 => I y3 w2 ∧ μ y3 w2 < μ x3 w1) Q w1

theorem f73_eq (x0 : Value) (Q : Value → World → Prop) (w : World) : f73 x0 Q w = fnVC Tryz.prog Tryz.f73 [(2, [3]), (9, [43])] (Tryz.f73.body.get rfl) [x0] w Q := by kernel_rfl
theorem f73_ok {x0 : Value} {Q : Value → World → Prop} {w : World} (h : f73 x0 Q w) : Meets Tryz.prog 73 #[x0] w Q :=
  sound (c := (Tryz.f73.body.get rfl)) [(2, [3]), (9, [43])] Tryz.func73 rfl rfl (args := [x0]) rfl (Eq.mp (f73_eq x0 Q w) h)

/-! (*pasodoble/store.Store).fits -/
def f82_4 (x32 : Value) (x33 : Value) (x34 : Value) (J4 : Value → World → Prop) (Q : Value → World → Prop) (w : World) : Prop :=
  kint .i64 .add x34 (.int .i64 1) fun v31 =>
  J4 v31 w

def f82_3 (x32 : Value) (x33 : Value) (x34 : Value) (J4 : Value → World → Prop) (Q : Value → World → Prop) (w : World) : Prop :=
  kix (some (.slice 3)) (some 1) x32 x34 fun v28 =>
  kld v28 w fun v29 =>
  kint .i64 .neq v29 (.int .i64 0) fun v30 =>
  kB v30 fun b32 => kIf b32
  (Q (.bool false) w)
  (f82_4 x32 x33 x34 J4 Q w)

def f82_5 (Q : Value → World → Prop) (w : World) : Prop :=
  Q (.bool true) w

def f82_2 (x34 : Value) (x32 : Value) (x33 : Value) (J4 : Value → World → Prop) (Q : Value → World → Prop) (w : World) : Prop :=
  kint .i64 .lss x34 x33 fun v27 =>
  kB v27 fun b33 => kIf b33
  (f82_3 x32 x33 x34 J4 Q w)
  (f82_5 Q w)

def f82_1 (x0 : Value) (x3 : Value) (Q : Value → World → Prop) (w : World) : Prop :=
  kfld 1 x3 fun v15 =>
  kN x0 <|
  kfld 1 x0 fun v16 =>
  kfld 0 v16 fun v17 =>
  kld v17 w.drew fun v18 =>
  kG (w.drew = w.drew) <|
  kfld 0 x3 fun v19 =>
  kld v19 w.drew fun v20 =>
  kG (w.drew = w.drew) <|
  kix (some (.slice 132)) (some 7) v18 v20 fun v21 =>
  kfld 1 v21 fun v22 =>
  kld v22 w.drew fun v23 =>
  kG (w.drew = w.drew) <|
  ksl (some (.array 4 3)) (some 1) v15 (some v23) none fun v24 =>
  klen v24 fun v25 =>
  kL fun (I : Value → World → Prop) (μ : Value → World → Nat) => I (.int .i64 0) w.drew ∧ ∀ (x34 : Value) (w1 : World), I x34 w1 →
  f82_2 x34 v24 v25 (fun y34 w2 => I y34 w2 ∧ μ y34 w2 < μ x34 w1) Q w1

def f82_0 (x0 : Value) (x3 : Value) (x20 : Value) (Q : Value → World → Prop) (w : World) : Prop :=
  kB x20 fun b34 => kIf b34
  (Q (.bool false) w)
  (f82_1 x0 x3 Q w)

def f82 (x0 : Value) (x1 : Value) (Q : Value → World → Prop) (w : World) : Prop :=
  knew (Value.cells x1) 49 w fun v1 w2 =>
  kfld 0 v1 fun v3 =>
  kld v3 w2.drew fun v4 =>
  kG (w2.drew = w2.drew) <|
  kint .i64 .lss v4 (.int .i64 0) fun v5 =>
  kB v5 fun b6 => kIf (!b6)
  (kfld 0 v1 fun v7 =>
  kld v7 w2.drew fun v8 =>
  kG (w2.drew = w2.drew) <|
  kN x0 <|
  kfld 1 x0 fun v9 =>
  kfld 0 v9 fun v10 =>
  kld v10 w2.drew fun v11 =>
  kG (w2.drew = w2.drew) <|
  klen v11 fun v12 =>
  kint .i64 .geq v8 v12 fun v14 =>
  f82_0 x0 v1 v14 Q w2.drew)
  (f82_0 x0 v1 (.bool true) Q w2.drew)

theorem f82_eq (x0 : Value) (x1 : Value) (Q : Value → World → Prop) (w : World) : f82 x0 x1 Q w = fnVC Tryz.prog Tryz.f82 [(4, [34])] (Tryz.f82.body.get rfl) [x0, x1] w Q := by kernel_rfl
theorem f82_ok {x0 : Value} {x1 : Value} {Q : Value → World → Prop} {w : World} (h : f82 x0 x1 Q w) : Meets Tryz.prog 82 #[x0, x1] w Q :=
  sound (c := (Tryz.f82.body.get rfl)) [(4, [34])] Tryz.func82 rfl rfl (args := [x0, x1]) rfl (Eq.mp (f82_eq x0 x1 Q w) h)

/-! (*pasodoble/store.Store).enter -/
def f77_2 (x0 : Value) (x2 : Value) (x5 : Value) (x9 : Value) (x21 : Value) (x22 : Value) (x23 : Value) (J3 : Value → World → Prop) (Q : Value → World → Prop) (w : World) : Prop :=
  kint .i64 .add x23 (.int .i64 1) fun v28 =>
  J3 v28 w

def f77_1 (x0 : Value) (x2 : Value) (x5 : Value) (x9 : Value) (x21 : Value) (x22 : Value) (x23 : Value) (J3 : Value → World → Prop) (Q : Value → World → Prop) (w : World) : Prop :=
  kix (some (.slice 49)) (some 6) x21 x23 fun v10 =>
  kldN 6 v10 w fun v11 =>
  knew #[(.int .i64 0), (.int .i64 0), (.int .i64 0), (.int .i64 0), (.int .i64 0), (.int .i64 0)] 49 w fun v12 w13 =>
  kst 6 v12 v11 w13 fun w14 =>
  kN x9 <|
  kfld 1 x9 fun v15 =>
  kld v15 w14.drew fun v16 =>
  kG (w14.drew = w14.drew) <|
  kfld 0 v12 fun v17 =>
  kld v17 w14.drew fun v18 =>
  kG (w14.drew = w14.drew) <|
  ksem Tryz.prog (Instr.lookup 147 v16 v18 false) w14.drew fun v19 w20 =>
  kG (w20 = w14.drew) <|
  kldN 6 v12 w20 fun v21 =>
  kG (w20 = w20) <|
  kcall Tryz.prog 140 #[v19, v21] w20 fun v22 w23 =>
  kext v22 0 fun v24 =>
  kext v22 1 fun v25 =>
  keq Tryz.prog .neq 28 false true v25 .nilIface w23 fun v26 w27 =>
  kB v26 fun b29 => kIf b29
  (Q v25 w27)
  (f77_2 x0 x2 x5 x9 x21 x22 x23 J3 Q w27)

def f77_3 (x0 : Value) (x2 : Value) (x5 : Value) (x9 : Value) (Q : Value → World → Prop) (w : World) : Prop :=
  kN x0 <|
  kfld 5 x0 fun v30 =>
  kld v30 w.drew fun v31 =>
  kG (w.drew = w.drew) <|
  kfld 0 x5 fun v32 =>
  kld v32 w.drew fun v33 =>
  kG (w.drew = w.drew) <|
  kN x9 <|
  kfld 0 x9 fun v34 =>
  kld v34 w.drew fun v35 =>
  kG (w.drew = w.drew) <|
  klen v35 fun v36 =>
  kbld [(.int .i64 0), (.int .i64 0)] [(0, 1, x2), (1, 1, v36)] fun v38 =>
  kix (some (.slice 153)) (some 2) v31 v33 fun v39 =>
  kst 2 v39 v38 w.drew fun w40 =>
  kN x9 <|
  kfld 0 x9 fun v41 =>
  kld v41 w40.drew fun v42 =>
  kG (w40.drew = w40.drew) <|
  kldN 2 x5 w40.drew fun v43 =>
  kG (w40.drew = w40.drew) <|
  kbldS [(.int .i64 0), (.int .i64 0)] 1 [(0, 2, v43)] 37 w40.drew fun v44 w45 =>
  kG (kld v41 w45 fun v50 =>
  v50 = v42 ∧ w45 = w45) <|
  ksem Tryz.prog (Builtin.append_ #[42, 42] 0 #[v42, v44]) w45 fun v46 w47 =>
  kN x9 <|
  kfld 0 x9 fun v48 =>
  kst 1 v48 v46 w47 fun w49 =>
  Q .nilIface w49

def f77_0 (x23 : Value) (x0 : Value) (x2 : Value) (x5 : Value) (x9 : Value) (x21 : Value) (x22 : Value) (J3 : Value → World → Prop) (Q : Value → World → Prop) (w : World) : Prop :=
  kint .i64 .lss x23 x22 fun v9 =>
  kB v9 fun b51 => kIf b51
  (f77_1 x0 x2 x5 x9 x21 x22 x23 J3 Q w)
  (f77_3 x0 x2 x5 x9 Q w)

def f77 (x0 : Value) (x1 : Value) (x2 : Value) (x3 : Value) (Q : Value → World → Prop) (w : World) : Prop :=
  knew (Value.cells x1) 37 w fun v1 w2 =>
  kN x0 <|
  kfld 4 x0 fun v3 =>
  kld v3 w2 fun v4 =>
  kix (some (.slice 150)) (some 1) v4 x2 fun v5 =>
  kld v5 w2 fun v6 =>
  klen x3 fun v7 =>
  kL fun (I : Value → World → Prop) (μ : Value → World → Nat) => I (.int .i64 0) w2 ∧ ∀ (x23 : Value) (w1 : World), I x23 w1 →
  f77_0 x23 x0 x2 v1 v6 x3 v7 (fun y23 w2 => I y23 w2 ∧ μ y23 w2 < μ x23 w1) Q w1

theorem f77_eq (x0 : Value) (x1 : Value) (x2 : Value) (x3 : Value) (Q : Value → World → Prop) (w : World) : f77 x0 x1 x2 x3 Q w = fnVC Tryz.prog Tryz.f77 [(3, [23])] (Tryz.f77.body.get rfl) [x0, x1, x2, x3] w Q := by kernel_rfl
theorem f77_ok {x0 : Value} {x1 : Value} {x2 : Value} {x3 : Value} {Q : Value → World → Prop} {w : World} (h : f77 x0 x1 x2 x3 Q w) : Meets Tryz.prog 77 #[x0, x1, x2, x3] w Q :=
  sound (c := (Tryz.f77.body.get rfl)) [(3, [23])] Tryz.func77 rfl rfl (args := [x0, x1, x2, x3]) rfl (Eq.mp (f77_eq x0 x1 x2 x3 Q w) h)

/-! pasodoble/store.sorted -/
def f90 (x0 : Value) (Q : Value → World → Prop) (w : World) : Prop :=
  kcall Tryz.prog 148 #[x0, (.func (.func 149) #[] #[])] w fun v1 w2 =>
  Q (.tuple #[]) w2

theorem f90_eq (x0 : Value) (Q : Value → World → Prop) (w : World) : f90 x0 Q w = fnVC Tryz.prog Tryz.f90 [] (Tryz.f90.body.get rfl) [x0] w Q := by kernel_rfl
theorem f90_ok {x0 : Value} {Q : Value → World → Prop} {w : World} (h : f90 x0 Q w) : Meets Tryz.prog 90 #[x0] w Q :=
  sound (c := (Tryz.f90.body.get rfl)) [] Tryz.func90 rfl rfl (args := [x0]) rfl (Eq.mp (f90_eq x0 Q w) h)

/-! pasodoble/store.sorted$1 -/
def f149 (x0 : Value) (x1 : Value) (Q : Value → World → Prop) (w : World) : Prop :=
  knew (Value.cells x0) 49 w fun v1 w2 =>
  knew (Value.cells x1) 49 w2 fun v3 w4 =>
  kfld 0 v1 fun v5 =>
  kld v5 w4 fun v6 =>
  kfld 0 v3 fun v7 =>
  kld v7 w4 fun v8 =>
  kcall Tryz.prog 144 #[v6, v8] w4 fun v9 w10 =>
  Q v9 w10

theorem f149_eq (x0 : Value) (x1 : Value) (Q : Value → World → Prop) (w : World) : f149 x0 x1 Q w = fnVC Tryz.prog Tryz.f149 [] (Tryz.f149.body.get rfl) [x0, x1] w Q := by kernel_rfl
theorem f149_ok {x0 : Value} {x1 : Value} {Q : Value → World → Prop} {w : World} (h : f149 x0 x1 Q w) : Meets Tryz.prog 149 #[x0, x1] w Q :=
  sound (c := (Tryz.f149.body.get rfl)) [] Tryz.func149 rfl rfl (args := [x0, x1]) rfl (Eq.mp (f149_eq x0 x1 Q w) h)

/-! (*pasodoble/store.Store).gathered -/
def f74_4 (x0 : Value) (x1 : Value) (x4 : Value) (x7 : Value) (x10 : Value) (x11 : Value) (x12 : Value) (J3 : Value → Value → Value → World → Prop) (Q : Value → World → Prop) (w : World) : Prop :=
  kint .i64 .add x12 (.int .i64 1) fun v25 =>
  J3 x4 x7 v25 w

def f74_3 (x0 : Value) (x1 : Value) (x4 : Value) (x7 : Value) (x9 : Value) (x10 : Value) (x11 : Value) (x12 : Value) (J3 : Value → Value → Value → World → Prop) (Q : Value → World → Prop) (w : World) : Prop :=
  kfld 0 x9 fun v21 =>
  kld v21 w fun v22 =>
  kcall Tryz.prog 23 #[x4, v22] w fun v23 w24 =>
  f74_4 x0 x1 v23 x7 x10 x11 x12 J3 Q w24

def f74_2 (x0 : Value) (x1 : Value) (x4 : Value) (x7 : Value) (x9 : Value) (x10 : Value) (x11 : Value) (x12 : Value) (J3 : Value → Value → Value → World → Prop) (Q : Value → World → Prop) (w : World) : Prop :=
  kB x7 fun b16 => kIf (!b16)
  (kfld 0 x9 fun v17 =>
  kld v17 w fun v18 =>
  kcall Tryz.prog 19 #[x4, v18] w fun v19 w20 =>
  f74_3 x0 x1 x4 v19 x9 x10 x11 x12 J3 Q w20)
  (f74_3 x0 x1 x4 (.bool true) x9 x10 x11 x12 J3 Q w)

def f74_1 (x0 : Value) (x1 : Value) (x4 : Value) (x7 : Value) (x10 : Value) (x11 : Value) (x12 : Value) (J3 : Value → Value → Value → World → Prop) (Q : Value → World → Prop) (w : World) : Prop :=
  kix (some (.slice 49)) (some 6) x10 x12 fun v4 =>
  kldN 6 v4 w fun v5 =>
  knew #[(.int .i64 0), (.int .i64 0), (.int .i64 0), (.int .i64 0), (.int .i64 0), (.int .i64 0)] 49 w fun v6 w7 =>
  kst 6 v6 v5 w7 fun w8 =>
  kldN 6 v6 w8 fun v9 =>
  kcall Tryz.prog 82 #[x0, v9] w8 fun v10 w11 =>
  kun .not (some .bool) v10 fun v12 =>
  kB v12 fun b26 => kIf b26
  (kld (.pointer (some ⟨5, 0, none⟩)) w11 fun v13 =>
  kcall Tryz.prog 68 #[v13] w11 fun v14 w15 =>
  Q (.tuple #[(.int .u32 0), (.slice none 0 0), v14]) w15)
  (f74_2 x0 x1 x4 x7 v6 x10 x11 x12 J3 Q w11)

def f74_6 (x1 : Value) (x4 : Value) (Q : Value → World → Prop) (w : World) : Prop :=
  kcall Tryz.prog 139 #[x1] w fun v30 w31 =>
  kcall Tryz.prog 90 #[v30] w31 fun v32 w33 =>
  Q (.tuple #[x4, v30, .nilIface]) w33

def f74_5 (x1 : Value) (x4 : Value) (x7 : Value) (Q : Value → World → Prop) (w : World) : Prop :=
  kB x7 fun b34 => kIf b34
  (kld (.pointer (some ⟨0, 0, none⟩)) w fun v27 =>
  kcall Tryz.prog 68 #[v27] w fun v28 w29 =>
  Q (.tuple #[(.int .u32 0), (.slice none 0 0), v28]) w29)
  (f74_6 x1 x4 Q w)

def f74_0 (x4 : Value) (x7 : Value) (x12 : Value) (x0 : Value) (x1 : Value) (x10 : Value) (x11 : Value) (J3 : Value → Value → Value → World → Prop) (Q : Value → World → Prop) (w : World) : Prop :=
  kint .i64 .lss x12 x11 fun v3 =>
  kB v3 fun b35 => kIf b35
  (f74_1 x0 x1 x4 x7 x10 x11 x12 J3 Q w)
  (f74_5 x1 x4 x7 Q w)

def f74 (x0 : Value) (x1 : Value) (Q : Value → World → Prop) (w : World) : Prop :=
  klen x1 fun v1 =>
  kL fun (I : Value → Value → Value → World → Prop) (μ : Value → Value → Value → World → Nat) => I (.int .u32 0) (.bool false) (.int .i64 0) w ∧ ∀ (x4 x7 x12 : Value) (w1 : World), I x4 x7 x12 w1 →
  f74_0 x4 x7 x12 x0 x1 x1 v1 (fun y4 y7 y12 w2 => I y4 y7 y12 w2 ∧ μ y4 y7 y12 w2 < μ x4 x7 x12 w1) Q w1

theorem f74_eq (x0 : Value) (x1 : Value) (Q : Value → World → Prop) (w : World) : f74 x0 x1 Q w = fnVC Tryz.prog Tryz.f74 [(3, [4, 7, 12])] (Tryz.f74.body.get rfl) [x0, x1] w Q := by kernel_rfl
theorem f74_ok {x0 : Value} {x1 : Value} {Q : Value → World → Prop} {w : World} (h : f74 x0 x1 Q w) : Meets Tryz.prog 74 #[x0, x1] w Q :=
  sound (c := (Tryz.f74.body.get rfl)) [(3, [4, 7, 12])] Tryz.func74 rfl rfl (args := [x0, x1]) rfl (Eq.mp (f74_eq x0 x1 Q w) h)

/-! (*pasodoble/store.Store).Spawn -/
def f14_4 (x0 : Value) (x4 : Value) (x7 : Value) (x9 : Value) (x10 : Value) (Q : Value → World → Prop) (w : World) : Prop :=
  kldN 2 x9 w.drew fun v57 =>
  kG (w.drew = w.drew) <|
  kldN 2 x9 w.drew fun v58 =>
  kG (w.drew = w.drew) <|
  kcall Tryz.prog 77 #[x0, v58, x10, x7] w.drew fun v59 w60 =>
  kG (kldN 2 x9 w60 fun v63 =>
  v63 = v57 ∧ w60 = w60) <|
  kst 2 x4 v57 w60 fun w61 =>
  kldN 2 x4 w61 fun v62 =>
  Q (.tuple #[v62, v59]) w61

def f14_3 (x0 : Value) (x4 : Value) (x7 : Value) (x9 : Value) (x10 : Value) (Q : Value → World → Prop) (w : World) : Prop :=
  kcall Tryz.prog 73 #[x0] w fun v50 w51 =>
  keq Tryz.prog .neq 28 false true v50 .nilIface w51 fun v52 w53 =>
  kB v52 fun b64 => kIf b64
  (kbld [(.int .i64 0), (.int .i64 0)] [] fun v54 =>
  kst 2 x4 v54 w53 fun w55 =>
  kldN 2 x4 w55 fun v56 =>
  Q (.tuple #[v56, v50]) w55)
  (f14_4 x0 x4 x7 x9 x10 Q w53)

def f14_2 (x0 : Value) (x4 : Value) (x6 : Value) (x7 : Value) (x9 : Value) (Q : Value → World → Prop) (w : World) : Prop :=
  kN x0 <|
  kfld 3 x0 fun v37 =>
  kld v37 w fun v38 =>
  kcall Tryz.prog 76 #[v38, x6] w fun v39 w40 =>
  kext v39 0 fun v41 =>
  kext v39 1 fun v42 =>
  keq Tryz.prog .neq 28 false true v42 .nilIface w40 fun v43 w44 =>
  kB v43 fun b65 => kIf b65
  (kbld [(.int .i64 0), (.int .i64 0)] [] fun v45 =>
  kcall Tryz.prog 68 #[v42] w44 fun v46 w47 =>
  kst 2 x4 v45 w47 fun w48 =>
  kldN 2 x4 w48 fun v49 =>
  Q (.tuple #[v49, v46]) w48)
  (f14_3 x0 x4 x7 x9 v41 Q w44)

def f14_1 (x0 : Value) (x4 : Value) (x6 : Value) (x7 : Value) (Q : Value → World → Prop) (w : World) : Prop :=
  kN x0 <|
  kfld 0 x0 fun v21 =>
  kld v21 w fun v22 =>
  kcall Tryz.prog 75 #[v22] w fun v23 w24 =>
  kext v23 0 fun v25 =>
  kext v23 1 fun v26 =>
  knew #[(.int .i64 0), (.int .i64 0)] 37 w24 fun v27 w28 =>
  kst 2 v27 v25 w28 fun w29 =>
  keq Tryz.prog .neq 28 false true v26 .nilIface w29 fun v30 w31 =>
  kB v30 fun b66 => kIf b66
  (kbld [(.int .i64 0), (.int .i64 0)] [] fun v32 =>
  kcall Tryz.prog 68 #[v26] w31 fun v33 w34 =>
  kst 2 x4 v32 w34 fun w35 =>
  kldN 2 x4 w35 fun v36 =>
  Q (.tuple #[v36, v33]) w35)
  (f14_2 x0 x4 x6 x7 v27 Q w31)

def f14_0 (x0 : Value) (x1 : Value) (x4 : Value) (Q : Value → World → Prop) (w : World) : Prop :=
  kcall Tryz.prog 74 #[x0, x1] w fun v11 w12 =>
  kext v11 0 fun v13 =>
  kext v11 1 fun v14 =>
  kext v11 2 fun v15 =>
  keq Tryz.prog .neq 28 false true v15 .nilIface w12 fun v16 w17 =>
  kB v16 fun b67 => kIf b67
  (kbld [(.int .i64 0), (.int .i64 0)] [] fun v18 =>
  kst 2 x4 v18 w17 fun w19 =>
  kldN 2 x4 w19 fun v20 =>
  Q (.tuple #[v20, v15]) w19)
  (f14_1 x0 x4 v13 v14 Q w17)

def f14 (x0 : Value) (x1 : Value) (Q : Value → World → Prop) (w : World) : Prop :=
  knew #[(.int .i64 0), (.int .i64 0)] 37 w fun v1 w2 =>
  keq Tryz.prog .eql 26 false true x0 (.pointer none) w2 fun v3 w4 =>
  kB v3 fun b68 => kIf b68
  (kbld [(.int .i64 0), (.int .i64 0)] [] fun v5 =>
  kld (.pointer (some ⟨4, 0, none⟩)) w4 fun v6 =>
  kcall Tryz.prog 68 #[v6] w4 fun v7 w8 =>
  kst 2 v1 v5 w8 fun w9 =>
  kldN 2 v1 w9 fun v10 =>
  Q (.tuple #[v10, v7]) w9)
  (f14_0 x0 x1 v1 Q w4)

theorem f14_eq (x0 : Value) (x1 : Value) (Q : Value → World → Prop) (w : World) : f14 x0 x1 Q w = fnVC Tryz.prog Tryz.f14 [] (Tryz.f14.body.get rfl) [x0, x1] w Q := by kernel_rfl
theorem f14_ok {x0 : Value} {x1 : Value} {Q : Value → World → Prop} {w : World} (h : f14 x0 x1 Q w) : Meets Tryz.prog 14 #[x0, x1] w Q :=
  sound (c := (Tryz.f14.body.get rfl)) [] Tryz.func14 rfl rfl (args := [x0, x1]) rfl (Eq.mp (f14_eq x0 x1 Q w) h)

/-! (*pasodoble/store.Store).Despawn -/
def f27_1 (x0 : Value) (x3 : Value) (x8 : Value) (Q : Value → World → Prop) (w : World) : Prop :=
  kN x0 <|
  kfld 0 x0 fun v20 =>
  kld v20 w.drew fun v21 =>
  kG (w.drew = w.drew) <|
  kldN 2 x3 w.drew fun v22 =>
  kG (w.drew = w.drew) <|
  kcall Tryz.prog 97 #[v21, v22] w.drew fun v23 w24 =>
  Q (.tuple #[x8, v23]) w24

def f27_0 (x0 : Value) (x3 : Value) (Q : Value → World → Prop) (w : World) : Prop :=
  kldN 2 x3 w fun v13 =>
  kcall Tryz.prog 96 #[x0, v13] w fun v14 w15 =>
  kext v14 0 fun v16 =>
  kext v14 1 fun v17 =>
  keq Tryz.prog .neq 28 false true v17 .nilIface w15 fun v18 w19 =>
  kB v18 fun b25 => kIf b25
  (Q (.tuple #[(.slice none 0 0), v17]) w19)
  (f27_1 x0 x3 v16 Q w19)

def f27 (x0 : Value) (x1 : Value) (Q : Value → World → Prop) (w : World) : Prop :=
  knew (Value.cells x1) 37 w fun v1 w2 =>
  kldN 2 v1 w2 fun v3 =>
  kcall Tryz.prog 81 #[x0, v3] w2 fun v4 w5 =>
  kext v4 0 fun v6 =>
  kext v4 1 fun v7 =>
  knew #[(.int .i64 0), (.int .i64 0)] 153 w5 fun v8 w9 =>
  kst 2 v8 v6 w9 fun w10 =>
  keq Tryz.prog .neq 28 false true v7 .nilIface w10 fun v11 w12 =>
  kB v11 fun b26 => kIf b26
  (Q (.tuple #[(.slice none 0 0), v7]) w12)
  (f27_0 x0 v1 Q w12)

/-! (*pasodoble/store.Store).Remove -/
def f24_1 (x0 : Value) (x4 : Value) (x5 : Value) (x6 : Value) (x8 : Value) (x10 : Value) (Q : Value → World → Prop) (w : World) : Prop :=
  kldN 6 x8 w.drew fun v40 =>
  kG (w.drew = w.drew) <|
  kldN 2 x4 w.drew fun v41 =>
  kG (w.drew = w.drew) <|
  kcall Tryz.prog 84 #[x0, v41, x10, (.func (.func 93) #[] #[x5])] w.drew fun v42 w43 =>
  kG (kldN 6 x8 w43 fun v46 =>
  v46 = v40 ∧ w43 = w43) <|
  kst 6 x6 v40 w43 fun w44 =>
  kldN 6 x6 w44 fun v45 =>
  Q (.tuple #[v45, v42]) w44

def f24_0 (x0 : Value) (x4 : Value) (x5 : Value) (x6 : Value) (x8 : Value) (Q : Value → World → Prop) (w : World) : Prop :=
  kN x0 <|
  kfld 3 x0 fun v21 =>
  kld v21 w.drew fun v22 =>
  kG (w.drew = w.drew) <|
  kN x0 <|
  kfld 5 x0 fun v23 =>
  kld v23 w.drew fun v24 =>
  kG (w.drew = w.drew) <|
  kfld 0 x4 fun v25 =>
  kld v25 w.drew fun v26 =>
  kG (w.drew = w.drew) <|
  kix (some (.slice 153)) (some 2) v24 v26 fun v27 =>
  kfld 0 v27 fun v28 =>
  kld v28 w.drew fun v29 =>
  kG (w.drew = w.drew) <|
  kld x5 w.drew fun v30 =>
  kG (w.drew = w.drew) <|
  kcall Tryz.prog 92 #[v22, v29, v30] w.drew fun v31 w32 =>
  kext v31 0 fun v33 =>
  kext v31 1 fun v34 =>
  keq Tryz.prog .neq 28 false true v34 .nilIface w32 fun v35 w36 =>
  kB v35 fun b47 => kIf b47
  (kbld [(.int .i64 0), (.int .i64 0), (.int .i64 0), (.int .i64 0), (.int .i64 0), (.int .i64 0)] [] fun v37 =>
  kst 6 x6 v37 w36 fun w38 =>
  kldN 6 x6 w38 fun v39 =>
  Q (.tuple #[v39, v34]) w38)
  (f24_1 x0 x4 x5 x6 x8 v33 Q w36)

def f24 (x0 : Value) (x1 : Value) (x2 : Value) (Q : Value → World → Prop) (w : World) : Prop :=
  knew (Value.cells x1) 37 w fun v1 w2 =>
  knew (Value.cells x2) 3 w2 fun v3 w4 =>
  knew #[(.int .i64 0), (.int .i64 0), (.int .i64 0), (.int .i64 0), (.int .i64 0), (.int .i64 0)] 49 w4 fun v5 w6 =>
  kldN 2 v1 w6 fun v7 =>
  kld v3 w6 fun v8 =>
  kcall Tryz.prog 28 #[x0, v7, v8] w6 fun v9 w10 =>
  kext v9 0 fun v11 =>
  kext v9 1 fun v12 =>
  knew #[(.int .i64 0), (.int .i64 0), (.int .i64 0), (.int .i64 0), (.int .i64 0), (.int .i64 0)] 49 w10 fun v13 w14 =>
  kst 6 v13 v11 w14 fun w15 =>
  keq Tryz.prog .neq 28 false true v12 .nilIface w15 fun v16 w17 =>
  kB v16 fun b48 => kIf b48
  (kbld [(.int .i64 0), (.int .i64 0), (.int .i64 0), (.int .i64 0), (.int .i64 0), (.int .i64 0)] [] fun v18 =>
  kst 6 v5 v18 w17 fun w19 =>
  kldN 6 v5 w19 fun v20 =>
  Q (.tuple #[v20, v12]) w19)
  (f24_0 x0 v1 v3 v5 v13 Q w17)

/-! (*pasodoble/store.Store).Get -/
def f28_0 (x6 : Value) (x8 : Value) (x9 : Value) (Q : Value → World → Prop) (w : World) : Prop :=
  kcall Tryz.prog 89 #[x8, x9] w fun v16 w17 =>
  kext v16 0 fun v18 =>
  kext v16 1 fun v19 =>
  kst 6 x6 v18 w17 fun w20 =>
  kldN 6 x6 w20 fun v21 =>
  Q (.tuple #[v21, v19]) w20

def f28 (x0 : Value) (x1 : Value) (x2 : Value) (Q : Value → World → Prop) (w : World) : Prop :=
  knew (Value.cells x1) 37 w fun v1 w2 =>
  knew #[(.int .i64 0), (.int .i64 0), (.int .i64 0), (.int .i64 0), (.int .i64 0), (.int .i64 0)] 49 w2 fun v3 w4 =>
  kldN 2 v1 w4 fun v5 =>
  kcall Tryz.prog 98 #[x0, v5, x2] w4 fun v6 w7 =>
  kext v6 0 fun v8 =>
  kext v6 1 fun v9 =>
  kext v6 2 fun v10 =>
  keq Tryz.prog .neq 28 false true v10 .nilIface w7 fun v11 w12 =>
  kB v11 fun b22 => kIf b22
  (kbld [(.int .i64 0), (.int .i64 0), (.int .i64 0), (.int .i64 0), (.int .i64 0), (.int .i64 0)] [] fun v13 =>
  kst 6 v3 v13 w12 fun w14 =>
  kldN 6 v3 w14 fun v15 =>
  Q (.tuple #[v15, v10]) w14)
  (f28_0 v3 v8 v9 Q w12)

/-! (*pasodoble/store.Store).Parts -/
def f21_3 (x6 : Value) (x8 : Value) (x11 : Value) (x33 : Value) (J6 : Value → World → Prop) (Q : Value → World → Prop) (w : World) : Prop :=
  kldN 6 x11 w fun v40 =>
  kbldS [(.int .i64 0), (.int .i64 0), (.int .i64 0), (.int .i64 0), (.int .i64 0), (.int .i64 0)] 1 [(0, 6, v40)] 49 w fun v41 w42 =>
  ksem Tryz.prog (Builtin.append_ #[40, 40] 0 #[x8, v41]) w42 fun v43 w44 =>
  J6 v43 w44

def f21_2 (x6 : Value) (x8 : Value) (x33 : Value) (J6 : Value → World → Prop) (Q : Value → World → Prop) (w : World) : Prop :=
  ksem Tryz.prog (Instr.entry x33) w fun v26 w27 =>
  kext v26 1 fun v28 =>
  kfld 1 x6 fun v29 =>
  kld v29 w27 fun v30 =>
  kcall Tryz.prog 89 #[v28, v30] w27 fun v31 w32 =>
  kext v31 0 fun v33 =>
  kext v31 1 fun v34 =>
  knew #[(.int .i64 0), (.int .i64 0), (.int .i64 0), (.int .i64 0), (.int .i64 0), (.int .i64 0)] 49 w32 fun v35 w36 =>
  kst 6 v35 v33 w36 fun w37 =>
  keq Tryz.prog .neq 28 false true v34 .nilIface w37 fun v38 w39 =>
  kB v38 fun b45 => kIf b45
  (Q (.tuple #[(.slice none 0 0), v34]) w39)
  (f21_3 x6 x8 v35 x33 J6 Q w39)

def f21_4 (x8 : Value) (Q : Value → World → Prop) (w : World) : Prop :=
  kcall Tryz.prog 90 #[x8] w fun v46 w47 =>
  Q (.tuple #[x8, .nilIface]) w47

def f21_1 (x8 : Value) (x6 : Value) (x33 : Value) (J6 : Value → World → Prop) (Q : Value → World → Prop) (w : World) : Prop :=
  ksem Tryz.prog (Instr.next x33 false 0) w fun v23 w24 =>
  kext v23 0 fun v25 =>
  kB v25 fun b48 => kIf b48
  (f21_2 x6 x8 x33 J6 Q w24)
  (f21_4 x8 Q w24)

def f21_0 (x0 : Value) (x6 : Value) (Q : Value → World → Prop) (w : World) : Prop :=
  kN x0 <|
  kfld 4 x0 fun v13 =>
  kld v13 w.drew fun v14 =>
  kG (w.drew = w.drew) <|
  kfld 0 x6 fun v15 =>
  kld v15 w.drew fun v16 =>
  kG (w.drew = w.drew) <|
  kix (some (.slice 150)) (some 1) v14 v16 fun v17 =>
  kld v17 w.drew fun v18 =>
  kG (w.drew = w.drew) <|
  kN v18 <|
  kfld 1 v18 fun v19 =>
  kld v19 w.drew fun v20 =>
  kG (w.drew = w.drew) <|
  ksem Tryz.prog (Instr.range 147 v20) w.drew fun v21 w22 =>
  kL fun (I : Value → World → Prop) (μ : Value → World → Nat) => I (.slice none 0 0) w22 ∧ ∀ (x8 : Value) (w1 : World), I x8 w1 →
  f21_1 x8 x6 v21 (fun y8 w2 => I y8 w2 ∧ μ y8 w2 < μ x8 w1) Q w1

def f21 (x0 : Value) (x1 : Value) (Q : Value → World → Prop) (w : World) : Prop :=
  knew (Value.cells x1) 37 w fun v1 w2 =>
  kldN 2 v1 w2 fun v3 =>
  kcall Tryz.prog 81 #[x0, v3] w2 fun v4 w5 =>
  kext v4 0 fun v6 =>
  kext v4 1 fun v7 =>
  knew #[(.int .i64 0), (.int .i64 0)] 153 w5 fun v8 w9 =>
  kst 2 v8 v6 w9 fun w10 =>
  keq Tryz.prog .neq 28 false true v7 .nilIface w10 fun v11 w12 =>
  kB v11 fun b49 => kIf b49
  (Q (.tuple #[(.slice none 0 0), v7]) w12)
  (f21_0 x0 v8 Q w12)

/-! (*pasodoble/store.Store).Alive -/
def f29 (x0 : Value) (x1 : Value) (Q : Value → World → Prop) (w : World) : Prop :=
  knew (Value.cells x1) 37 w fun v1 w2 =>
  keq Tryz.prog .neq 26 false true x0 (.pointer none) w2.drew fun v3 w4 =>
  kG (w4 = w2.drew) <|
  kB v3 fun b5 => kIf b5
  (kN x0 <|
  kfld 0 x0 fun v6 =>
  kld v6 w4 fun v7 =>
  kG (w4 = w4) <|
  kldN 2 v1 w4 fun v8 =>
  kG (w4 = w4) <|
  kcall Tryz.prog 99 #[v7, v8] w4 fun v9 w10 =>
  Q v9 w10)
  (Q (.bool false) w4)

/-! pasodoble/store.listed -/
def f79 (x0 : Value) (Q : Value → World → Prop) (w : World) : Prop :=
  kcall Tryz.prog 142 #[x0, (.func (.func 143) #[] #[])] w fun v1 w2 =>
  Q x0 w2

theorem f79_eq (x0 : Value) (Q : Value → World → Prop) (w : World) : f79 x0 Q w = fnVC Tryz.prog Tryz.f79 [] (Tryz.f79.body.get rfl) [x0] w Q := by kernel_rfl
theorem f79_ok {x0 : Value} {Q : Value → World → Prop} {w : World} (h : f79 x0 Q w) : Meets Tryz.prog 79 #[x0] w Q :=
  sound (c := (Tryz.f79.body.get rfl)) [] Tryz.func79 rfl rfl (args := [x0]) rfl (Eq.mp (f79_eq x0 Q w) h)

/-! pasodoble/store.listed$1 -/
def f143 (x0 : Value) (x1 : Value) (Q : Value → World → Prop) (w : World) : Prop :=
  knew (Value.cells x0) 37 w fun v1 w2 =>
  knew (Value.cells x1) 37 w2 fun v3 w4 =>
  kfld 0 v1 fun v5 =>
  kld v5 w4 fun v6 =>
  kfld 0 v3 fun v7 =>
  kld v7 w4 fun v8 =>
  kcall Tryz.prog 144 #[v6, v8] w4 fun v9 w10 =>
  Q v9 w10

theorem f143_eq (x0 : Value) (x1 : Value) (Q : Value → World → Prop) (w : World) : f143 x0 x1 Q w = fnVC Tryz.prog Tryz.f143 [] (Tryz.f143.body.get rfl) [x0, x1] w Q := by kernel_rfl
theorem f143_ok {x0 : Value} {x1 : Value} {Q : Value → World → Prop} {w : World} (h : f143 x0 x1 Q w) : Meets Tryz.prog 143 #[x0, x1] w Q :=
  sound (c := (Tryz.f143.body.get rfl)) [] Tryz.func143 rfl rfl (args := [x0, x1]) rfl (Eq.mp (f143_eq x0 x1 Q w) h)

/-! (*pasodoble/store.Store).Match -/
def f16_3 (x0 : Value) (x7 : Value) (x18 : Value) (x19 : Value) (x20 : Value) (J5 : Value → Value → World → Prop) (Q : Value → World → Prop) (w : World) : Prop :=
  kint .i64 .add x20 (.int .i64 1) fun v20 =>
  J5 x7 v20 w

def f16_2 (x0 : Value) (x7 : Value) (x18 : Value) (x19 : Value) (x20 : Value) (J5 : Value → Value → World → Prop) (Q : Value → World → Prop) (w : World) : Prop :=
  kix (some (.slice 3)) (some 1) x18 x20 fun v10 =>
  kld v10 w fun v11 =>
  kN x0 <|
  kfld 4 x0 fun v12 =>
  kld v12 w fun v13 =>
  kix (some (.slice 150)) (some 1) v13 v11 fun v14 =>
  kld v14 w fun v15 =>
  kN v15 <|
  kfld 0 v15 fun v16 =>
  kld v16 w fun v17 =>
  ksem Tryz.prog (Builtin.append_ #[42, 42] 0 #[x7, v17]) w fun v18 w19 =>
  f16_3 x0 v18 x18 x19 x20 J5 Q w19

def f16_4 (x7 : Value) (Q : Value → World → Prop) (w : World) : Prop :=
  kcall Tryz.prog 79 #[x7] w fun v21 w22 =>
  Q v21 w22

def f16_1 (x7 : Value) (x20 : Value) (x0 : Value) (x18 : Value) (x19 : Value) (J5 : Value → Value → World → Prop) (Q : Value → World → Prop) (w : World) : Prop :=
  kint .i64 .lss x20 x19 fun v9 =>
  kB v9 fun b23 => kIf b23
  (f16_2 x0 x7 x18 x19 x20 J5 Q w)
  (f16_4 x7 Q w)

def f16_0 (x0 : Value) (x1 : Value) (x2 : Value) (Q : Value → World → Prop) (w : World) : Prop :=
  kN x0 <|
  kfld 3 x0 fun v3 =>
  kld v3 w fun v4 =>
  kcall Tryz.prog 78 #[v4, x1, x2] w fun v5 w6 =>
  klen v5 fun v7 =>
  kL fun (I : Value → Value → World → Prop) (μ : Value → Value → World → Nat) => I (.slice none 0 0) (.int .i64 0) w6 ∧ ∀ (x7 x20 : Value) (w1 : World), I x7 x20 w1 →
  f16_1 x7 x20 x0 v5 v7 (fun y7 y20 w2 => I y7 y20 w2 ∧ μ y7 y20 w2 < μ x7 x20 w1) Q w1

def f16 (x0 : Value) (x1 : Value) (x2 : Value) (Q : Value → World → Prop) (w : World) : Prop :=
  keq Tryz.prog .eql 26 false true x0 (.pointer none) w fun v1 w2 =>
  kB v1 fun b24 => kIf b24
  (Q (.slice none 0 0) w2)
  (f16_0 x0 x1 x2 Q w2)

theorem f16_eq (x0 : Value) (x1 : Value) (x2 : Value) (Q : Value → World → Prop) (w : World) : f16 x0 x1 x2 Q w = fnVC Tryz.prog Tryz.f16 [(5, [7, 20])] (Tryz.f16.body.get rfl) [x0, x1, x2] w Q := by kernel_rfl
theorem f16_ok {x0 : Value} {x1 : Value} {x2 : Value} {Q : Value → World → Prop} {w : World} (h : f16 x0 x1 x2 Q w) : Meets Tryz.prog 16 #[x0, x1, x2] w Q :=
  sound (c := (Tryz.f16.body.get rfl)) [(5, [7, 20])] Tryz.func16 rfl rfl (args := [x0, x1, x2]) rfl (Eq.mp (f16_eq x0 x1 x2 Q w) h)

/-! (*pasodoble/store.Store).Changed -/
def f30_5 (x1 : Value) (x2 : Value) (x7 : Value) (x9 : Value) (x17 : Value) (x18 : Value) (x19 : Value) (x30 : Value) (x31 : Value) (x32 : Value) (J8 : Value → Value → World → Prop) (J5 : Value → Value → World → Prop) (Q : Value → World → Prop) (w : World) : Prop :=
  kint .i64 .add x32 (.int .i64 1) fun v29 =>
  J8 x7 v29 w

def f30_4 (x1 : Value) (x2 : Value) (x7 : Value) (x9 : Value) (x17 : Value) (x18 : Value) (x19 : Value) (x30 : Value) (x31 : Value) (x32 : Value) (J8 : Value → Value → World → Prop) (J5 : Value → Value → World → Prop) (Q : Value → World → Prop) (w : World) : Prop :=
  kix (some (.slice 3)) (some 1) x30 x32 fun v19 =>
  kld v19 w fun v20 =>
  kN x9 <|
  kfld 0 x9 fun v21 =>
  kld v21 w fun v22 =>
  kix (some (.slice 37)) (some 2) v22 v20 fun v23 =>
  kldN 2 v23 w fun v24 =>
  kbldS [(.int .i64 0), (.int .i64 0)] 1 [(0, 2, v24)] 37 w fun v25 w26 =>
  ksem Tryz.prog (Builtin.append_ #[42, 42] 0 #[x7, v25]) w26 fun v27 w28 =>
  f30_5 x1 x2 v27 x9 x17 x18 x19 x30 x31 x32 J8 J5 Q w28

def f30_6 (x1 : Value) (x2 : Value) (x7 : Value) (x17 : Value) (x18 : Value) (x19 : Value) (J5 : Value → Value → World → Prop) (Q : Value → World → Prop) (w : World) : Prop :=
  kint .i64 .add x19 (.int .i64 1) fun v30 =>
  J5 x7 v30 w

def f30_3 (x7 : Value) (x32 : Value) (x1 : Value) (x2 : Value) (x9 : Value) (x17 : Value) (x18 : Value) (x19 : Value) (x30 : Value) (x31 : Value) (J8 : Value → Value → World → Prop) (J5 : Value → Value → World → Prop) (Q : Value → World → Prop) (w : World) : Prop :=
  kint .i64 .lss x32 x31 fun v18 =>
  kB v18 fun b31 => kIf b31
  (f30_4 x1 x2 x7 x9 x17 x18 x19 x30 x31 x32 J8 J5 Q w)
  (f30_6 x1 x2 x7 x17 x18 x19 J5 Q w)

def f30_2 (x1 : Value) (x2 : Value) (x7 : Value) (x17 : Value) (x18 : Value) (x19 : Value) (J5 : Value → Value → World → Prop) (Q : Value → World → Prop) (w : World) : Prop :=
  kix (some (.slice 150)) (some 1) x17 x19 fun v8 =>
  kld v8 w fun v9 =>
  kN v9 <|
  kfld 1 v9 fun v10 =>
  kld v10 w fun v11 =>
  ksem Tryz.prog (Instr.lookup 147 v11 x1 false) w fun v12 w13 =>
  kcall Tryz.prog 100 #[v12, x2] w13 fun v14 w15 =>
  klen v14 fun v16 =>
  kL fun (I : Value → Value → World → Prop) (μ : Value → Value → World → Nat) => I x7 (.int .i64 0) w15 ∧ ∀ (x7 x32 : Value) (w1 : World), I x7 x32 w1 →
  f30_3 x7 x32 x1 x2 v9 x17 x18 x19 v14 v16 (fun y7 y32 w2 => I y7 y32 w2 ∧ μ y7 y32 w2 < μ x7 x32 w1) J5 Q w1

def f30_7 (x7 : Value) (Q : Value → World → Prop) (w : World) : Prop :=
  kcall Tryz.prog 79 #[x7] w fun v32 w33 =>
  Q v32 w33

def f30_1 (x7 : Value) (x19 : Value) (x1 : Value) (x2 : Value) (x17 : Value) (x18 : Value) (J5 : Value → Value → World → Prop) (Q : Value → World → Prop) (w : World) : Prop :=
  kint .i64 .lss x19 x18 fun v7 =>
  kB v7 fun b34 => kIf b34
  (f30_2 x1 x2 x7 x17 x18 x19 J5 Q w)
  (f30_7 x7 Q w)

def f30_0 (x0 : Value) (x1 : Value) (x2 : Value) (Q : Value → World → Prop) (w : World) : Prop :=
  kN x0 <|
  kfld 4 x0 fun v3 =>
  kld v3 w fun v4 =>
  klen v4 fun v5 =>
  kL fun (I : Value → Value → World → Prop) (μ : Value → Value → World → Nat) => I (.slice none 0 0) (.int .i64 0) w ∧ ∀ (x7 x19 : Value) (w1 : World), I x7 x19 w1 →
  f30_1 x7 x19 x1 x2 v4 v5 (fun y7 y19 w2 => I y7 y19 w2 ∧ μ y7 y19 w2 < μ x7 x19 w1) Q w1

def f30 (x0 : Value) (x1 : Value) (x2 : Value) (Q : Value → World → Prop) (w : World) : Prop :=
  keq Tryz.prog .eql 26 false true x0 (.pointer none) w fun v1 w2 =>
  kB v1 fun b35 => kIf b35
  (Q (.slice none 0 0) w2)
  (f30_0 x0 x1 x2 Q w2)

theorem f30_eq (x0 : Value) (x1 : Value) (x2 : Value) (Q : Value → World → Prop) (w : World) : f30 x0 x1 x2 Q w = fnVC Tryz.prog Tryz.f30 [(5, [7, 19]), (8, [7, 32])] (Tryz.f30.body.get rfl) [x0, x1, x2] w Q := by kernel_rfl
theorem f30_ok {x0 : Value} {x1 : Value} {x2 : Value} {Q : Value → World → Prop} {w : World} (h : f30 x0 x1 x2 Q w) : Meets Tryz.prog 30 #[x0, x1, x2] w Q :=
  sound (c := (Tryz.f30.body.get rfl)) [(5, [7, 19]), (8, [7, 32])] Tryz.func30 rfl rfl (args := [x0, x1, x2]) rfl (Eq.mp (f30_eq x0 x1 x2 Q w) h)

/-! (*pasodoble/store.Store).Tables -/
def f26_0 (x0 : Value) (Q : Value → World → Prop) (w : World) : Prop :=
  kN x0 <|
  kfld 4 x0 fun v3 =>
  kld v3 w fun v4 =>
  klen v4 fun v5 =>
  Q v5 w

def f26 (x0 : Value) (Q : Value → World → Prop) (w : World) : Prop :=
  keq Tryz.prog .eql 26 false true x0 (.pointer none) w fun v1 w2 =>
  kB v1 fun b7 => kIf b7
  (Q (.int .i64 0) w2)
  (f26_0 x0 Q w2)

/-! cmp.Compare[int] -/
def f144_0 (Q : Value → World → Prop) (w : World) : Prop :=
  Q (.int .i64 (-1)) w

def f144_4 (Q : Value → World → Prop) (w : World) : Prop :=
  Q (.int .i64 0) w

def f144_3 (x0 : Value) (x1 : Value) (Q : Value → World → Prop) (w : World) : Prop :=
  kint .i64 .gtr x0 x1 fun v7 =>
  kB v7 fun b8 => kIf b8
  (Q (.int .i64 1) w)
  (f144_4 Q w)

def f144_2 (x0 : Value) (x1 : Value) (Q : Value → World → Prop) (w : World) : Prop :=
  kint .i64 .lss x0 x1 fun v6 =>
  kB v6 fun b9 => kIf b9
  (Q (.int .i64 (-1)) w)
  (f144_3 x0 x1 Q w)

def f144_1 (x0 : Value) (x1 : Value) (x6 : Value) (Q : Value → World → Prop) (w : World) : Prop :=
  kB x6 fun b10 => kIf b10
  (Q (.int .i64 1) w)
  (f144_2 x0 x1 Q w)

def f144 (x0 : Value) (x1 : Value) (Q : Value → World → Prop) (w : World) : Prop :=
  kcall Tryz.prog 177 #[x0] w fun v1 w2 =>
  kcall Tryz.prog 177 #[x1] w2 fun v3 w4 =>
  kB v1 fun b11 => kIf b11
  (kB v3 fun b5 => kIf b5
  (Q (.int .i64 0) w4)
  (f144_0 Q w4))
  (f144_1 x0 x1 v3 Q w4)

theorem f144_eq (x0 : Value) (x1 : Value) (Q : Value → World → Prop) (w : World) : f144 x0 x1 Q w = fnVC Tryz.prog Tryz.f144 [] (Tryz.f144.body.get rfl) [x0, x1] w Q := by kernel_rfl
theorem f144_ok {x0 : Value} {x1 : Value} {Q : Value → World → Prop} {w : World} (h : f144 x0 x1 Q w) : Meets Tryz.prog 144 #[x0, x1] w Q :=
  sound (c := (Tryz.f144.body.get rfl)) [] Tryz.func144 rfl rfl (args := [x0, x1]) rfl (Eq.mp (f144_eq x0 x1 Q w) h)

/-! cmp.isNaN[int] -/
def f177 (x0 : Value) (Q : Value → World → Prop) (w : World) : Prop :=
  kint .i64 .neq x0 x0 fun v1 =>
  Q v1 w

theorem f177_eq (x0 : Value) (Q : Value → World → Prop) (w : World) : f177 x0 Q w = fnVC Tryz.prog Tryz.f177 [] (Tryz.f177.body.get rfl) [x0] w Q := by kernel_rfl
theorem f177_ok {x0 : Value} {Q : Value → World → Prop} {w : World} (h : f177 x0 Q w) : Meets Tryz.prog 177 #[x0] w Q :=
  sound (c := (Tryz.f177.body.get rfl)) [] Tryz.func177 rfl rfl (args := [x0]) rfl (Eq.mp (f177_eq x0 Q w) h)

/-! slices.Clone[[]pasodoble/api.Part,pasodoble/api.Part] -/
def f139_0 (x0 : Value) (Q : Value → World → Prop) (w : World) : Prop :=
  kbldS [(.int .i64 0), (.int .i64 0), (.int .i64 0), (.int .i64 0), (.int .i64 0), (.int .i64 0)] 0 [] 49 w fun v3 w4 =>
  ksem Tryz.prog (Builtin.append_ #[40, 40] 0 #[v3, x0]) w4 fun v5 w6 =>
  Q v5 w6

def f139 (x0 : Value) (Q : Value → World → Prop) (w : World) : Prop :=
  keq Tryz.prog .eql 40 false true x0 (.slice none 0 0) w fun v1 w2 =>
  kB v1 fun b7 => kIf b7
  (Q (.slice none 0 0) w2)
  (f139_0 x0 Q w2)

theorem f139_eq (x0 : Value) (Q : Value → World → Prop) (w : World) : f139 x0 Q w = fnVC Tryz.prog Tryz.f139 [] (Tryz.f139.body.get rfl) [x0] w Q := by kernel_rfl
theorem f139_ok {x0 : Value} {Q : Value → World → Prop} {w : World} (h : f139 x0 Q w) : Meets Tryz.prog 139 #[x0] w Q :=
  sound (c := (Tryz.f139.body.get rfl)) [] Tryz.func139 rfl rfl (args := [x0]) rfl (Eq.mp (f139_eq x0 Q w) h)

/-! slices.Clone[[]pasodoble/api.Component,pasodoble/api.Component] -/
def f71_0 (x0 : Value) (Q : Value → World → Prop) (w : World) : Prop :=
  kbldS [(.string ⟨#[]⟩), (.int .i64 0), (.bool false), (.int .i64 0), (.int .i64 0), (.int .i64 0), (.int .i64 0)] 0 [] 132 w fun v3 w4 =>
  ksem Tryz.prog (Builtin.append_ #[31, 31] 0 #[v3, x0]) w4 fun v5 w6 =>
  Q v5 w6

def f71 (x0 : Value) (Q : Value → World → Prop) (w : World) : Prop :=
  keq Tryz.prog .eql 31 false true x0 (.slice none 0 0) w fun v1 w2 =>
  kB v1 fun b7 => kIf b7
  (Q (.slice none 0 0) w2)
  (f71_0 x0 Q w2)

theorem f71_eq (x0 : Value) (Q : Value → World → Prop) (w : World) : f71 x0 Q w = fnVC Tryz.prog Tryz.f71 [] (Tryz.f71.body.get rfl) [x0] w Q := by kernel_rfl
theorem f71_ok {x0 : Value} {Q : Value → World → Prop} {w : World} (h : f71 x0 Q w) : Meets Tryz.prog 71 #[x0] w Q :=
  sound (c := (Tryz.f71.body.get rfl)) [] Tryz.func71 rfl rfl (args := [x0]) rfl (Eq.mp (f71_eq x0 Q w) h)

/-! slices.Clone[[]pasodoble/api.Resource,pasodoble/api.Resource] -/
def f72_0 (x0 : Value) (Q : Value → World → Prop) (w : World) : Prop :=
  kbldS [(.string ⟨#[]⟩), (.int .i64 0)] 0 [] 135 w fun v3 w4 =>
  ksem Tryz.prog (Builtin.append_ #[32, 32] 0 #[v3, x0]) w4 fun v5 w6 =>
  Q v5 w6

def f72 (x0 : Value) (Q : Value → World → Prop) (w : World) : Prop :=
  keq Tryz.prog .eql 32 false true x0 (.slice none 0 0) w fun v1 w2 =>
  kB v1 fun b7 => kIf b7
  (Q (.slice none 0 0) w2)
  (f72_0 x0 Q w2)

theorem f72_eq (x0 : Value) (Q : Value → World → Prop) (w : World) : f72 x0 Q w = fnVC Tryz.prog Tryz.f72 [] (Tryz.f72.body.get rfl) [x0] w Q := by kernel_rfl
theorem f72_ok {x0 : Value} {Q : Value → World → Prop} {w : World} (h : f72 x0 Q w) : Meets Tryz.prog 72 #[x0] w Q :=
  sound (c := (Tryz.f72.body.get rfl)) [] Tryz.func72 rfl rfl (args := [x0]) rfl (Eq.mp (f72_eq x0 Q w) h)

/-! slices.SortFunc[[]pasodoble/api.Part,pasodoble/api.Part] -/
def f148 (x0 : Value) (x1 : Value) (Q : Value → World → Prop) (w : World) : Prop :=
  klen x0 fun v1 =>
  kcnv .u64 v1 fun v3 =>
  kcall Tryz.prog 164 #[v3] w fun v4 w5 =>
  kcall Tryz.prog 178 #[x0, (.int .i64 0), v1, v4, x1] w5 fun v6 w7 =>
  Q (.tuple #[]) w7

theorem f148_eq (x0 : Value) (x1 : Value) (Q : Value → World → Prop) (w : World) : f148 x0 x1 Q w = fnVC Tryz.prog Tryz.f148 [] (Tryz.f148.body.get rfl) [x0, x1] w Q := by kernel_rfl
theorem f148_ok {x0 : Value} {x1 : Value} {Q : Value → World → Prop} {w : World} (h : f148 x0 x1 Q w) : Meets Tryz.prog 148 #[x0, x1] w Q :=
  sound (c := (Tryz.f148.body.get rfl)) [] Tryz.func148 rfl rfl (args := [x0, x1]) rfl (Eq.mp (f148_eq x0 x1 Q w) h)

/-! slices.SortFunc[[]pasodoble/api.Entity,pasodoble/api.Entity] -/
def f142 (x0 : Value) (x1 : Value) (Q : Value → World → Prop) (w : World) : Prop :=
  klen x0 fun v1 =>
  kcnv .u64 v1 fun v3 =>
  kcall Tryz.prog 164 #[v3] w fun v4 w5 =>
  kcall Tryz.prog 176 #[x0, (.int .i64 0), v1, v4, x1] w5 fun v6 w7 =>
  Q (.tuple #[]) w7

theorem f142_eq (x0 : Value) (x1 : Value) (Q : Value → World → Prop) (w : World) : f142 x0 x1 Q w = fnVC Tryz.prog Tryz.f142 [] (Tryz.f142.body.get rfl) [x0, x1] w Q := by kernel_rfl
theorem f142_ok {x0 : Value} {x1 : Value} {Q : Value → World → Prop} {w : World} (h : f142 x0 x1 Q w) : Meets Tryz.prog 142 #[x0, x1] w Q :=
  sound (c := (Tryz.f142.body.get rfl)) [] Tryz.func142 rfl rfl (args := [x0, x1]) rfl (Eq.mp (f142_eq x0 x1 Q w) h)

end Go.Proofs.YtlkpadfkmdgjcaaGreatDoor
end
section
set_option linter.unusedSimpArgs false
set_option linter.unusedVariables false
namespace Go.Proofs.YtlkpadfkmdgjcaaGreatDoor
open Go Go.Ev
set_option linter.unusedVariables false
set_option maxRecDepth 100000

/-! math/bits.Len -/
def f164_0 (x0 : Value) (Q : Value → World → Prop) (w : World) : Prop :=
  kcall Tryz.prog 194 #[x0] w fun v4 w5 =>
  Q v4 w5

def f164 (x0 : Value) (Q : Value → World → Prop) (w : World) : Prop :=
  kB (.bool false) fun b6 => kIf b6
  (kcnv .u32 x0 fun v1 =>
  kcall Tryz.prog 193 #[v1] w fun v2 w3 =>
  Q v2 w3)
  (f164_0 x0 Q w)

theorem f164_eq (x0 : Value) (Q : Value → World → Prop) (w : World) : f164 x0 Q w = fnVC Tryz.prog Tryz.f164 [] (Tryz.f164.body.get rfl) [x0] w Q := by kernel_rfl
theorem f164_ok {x0 : Value} {Q : Value → World → Prop} {w : World} (h : f164 x0 Q w) : Meets Tryz.prog 164 #[x0] w Q :=
  sound (c := (Tryz.f164.body.get rfl)) [] Tryz.func164 rfl rfl (args := [x0]) rfl (Eq.mp (f164_eq x0 Q w) h)

/-! math/bits.Len64 -/
def f194_2 (x0 : Value) (x2 : Value) (Q : Value → World → Prop) (w : World) : Prop :=
  kcnv .u8 x0 fun v9 =>
  kiv Tryz.prog (some .string) (.string ⟨#[0, 1, 2, 2, 3, 3, 3, 3, 4, 4, 4, 4, 4, 4, 4, 4, 5, 5, 5, 5, 5, 5, 5, 5, 5, 5, 5, 5, 5, 5, 5, 5, 6, 6, 6, 6, 6, 6, 6, 6, 6, 6, 6, 6, 6, 6, 6, 6, 6, 6, 6, 6, 6, 6, 6, 6, 6, 6, 6, 6, 6, 6, 6, 6, 7, 7, 7, 7, 7, 7, 7, 7, 7, 7, 7, 7, 7, 7, 7, 7, 7, 7, 7, 7, 7, 7, 7, 7, 7, 7, 7, 7, 7, 7, 7, 7, 7, 7, 7, 7, 7, 7, 7, 7, 7, 7, 7, 7, 7, 7, 7, 7, 7, 7, 7, 7, 7, 7, 7, 7, 7, 7, 7, 7, 7, 7, 7, 7, 8, 8, 8, 8, 8, 8, 8, 8, 8, 8, 8, 8, 8, 8, 8, 8, 8, 8, 8, 8, 8, 8, 8, 8, 8, 8, 8, 8, 8, 8, 8, 8, 8, 8, 8, 8, 8, 8, 8, 8, 8, 8, 8, 8, 8, 8, 8, 8, 8, 8, 8, 8, 8, 8, 8, 8, 8, 8, 8, 8, 8, 8, 8, 8, 8, 8, 8, 8, 8, 8, 8, 8, 8, 8, 8, 8, 8, 8, 8, 8, 8, 8, 8, 8, 8, 8, 8, 8, 8, 8, 8, 8, 8, 8, 8, 8, 8, 8, 8, 8, 8, 8, 8, 8, 8, 8, 8, 8, 8, 8, 8, 8, 8, 8, 8, 8, 8, 8, 8, 8, 8, 8, 8, 8, 8, 8, 8, 8]⟩) v9 fun v10 =>
  kcnv .i64 v10 fun v11 =>
  kint .i64 .add x2 v11 fun v12 =>
  Q v12 w

def f194_1 (x0 : Value) (x2 : Value) (Q : Value → World → Prop) (w : World) : Prop :=
  kint .u64 .geq x0 (.int .u64 256) fun v6 =>
  kB v6 fun b13 => kIf b13
  (kint .u64 .shr x0 (.int .u64 8) fun v7 =>
  kint .i64 .add x2 (.int .i64 8) fun v8 =>
  f194_2 v7 v8 Q w)
  (f194_2 x0 x2 Q w)

def f194_0 (x0 : Value) (x2 : Value) (Q : Value → World → Prop) (w : World) : Prop :=
  kint .u64 .geq x0 (.int .u64 65536) fun v3 =>
  kB v3 fun b14 => kIf b14
  (kint .u64 .shr x0 (.int .u64 16) fun v4 =>
  kint .i64 .add x2 (.int .i64 16) fun v5 =>
  f194_1 v4 v5 Q w)
  (f194_1 x0 x2 Q w)

def f194 (x0 : Value) (Q : Value → World → Prop) (w : World) : Prop :=
  kint .u64 .geq x0 (.int .u64 4294967296) fun v1 =>
  kB v1 fun b15 => kIf b15
  (kint .u64 .shr x0 (.int .u64 32) fun v2 =>
  f194_0 v2 (.int .i64 32) Q w)
  (f194_0 x0 (.int .i64 0) Q w)

theorem f194_eq (x0 : Value) (Q : Value → World → Prop) (w : World) : f194 x0 Q w = fnVC Tryz.prog Tryz.f194 [] (Tryz.f194.body.get rfl) [x0] w Q := by kernel_rfl
theorem f194_ok {x0 : Value} {Q : Value → World → Prop} {w : World} (h : f194 x0 Q w) : Meets Tryz.prog 194 #[x0] w Q :=
  sound (c := (Tryz.f194.body.get rfl)) [] Tryz.func194 rfl rfl (args := [x0]) rfl (Eq.mp (f194_eq x0 Q w) h)

/-! slices.pdqsortCmpFunc[pasodoble/api.Part] -/
def f178_8 (x0 : Value) (x1 : Value) (x2 : Value) (x3 : Value) (x4 : Value) (x12 : Value) (x13 : Value) (J2 : Value → Value → Value → Value → Value → World → Prop) (Q : Value → World → Prop) (w : World) : Prop :=
  kcall Tryz.prog 220 #[x0, x1, x2, x13, x4] w fun v40 w41 =>
  kext v40 0 fun v42 =>
  kext v40 1 fun v43 =>
  kint .i64 .sub v42 x1 fun v44 =>
  kint .i64 .sub x2 v42 fun v45 =>
  kint .i64 .quo x12 (.int .i64 8) fun v46 =>
  kint .i64 .lss v44 v45 fun v47 =>
  kB v47 fun b56 => kIf b56
  (kint .i64 .geq v44 v46 fun v48 =>
  kcall Tryz.prog 178 #[x0, x1, v42, x3, x4] w41 fun v49 w50 =>
  kint .i64 .add v42 (.int .i64 1) fun v51 =>
  J2 v51 x2 x3 v48 v43 w50)
  (kint .i64 .geq v45 v46 fun v52 =>
  kint .i64 .add v42 (.int .i64 1) fun v53 =>
  kcall Tryz.prog 178 #[x0, v53, x2, x3, x4] w41 fun v54 w55 =>
  J2 x1 v42 x3 v52 v43 w55)

def f178_7 (x0 : Value) (x1 : Value) (x2 : Value) (x3 : Value) (x4 : Value) (x10 : Value) (x11 : Value) (x12 : Value) (x13 : Value) (x97 : Value) (J2 : Value → Value → Value → Value → Value → World → Prop) (Q : Value → World → Prop) (w : World) : Prop :=
  kB x97 fun b57 => kIf b57
  (kcall Tryz.prog 219 #[x0, x1, x2, x13, x4] w fun v38 w39 =>
  J2 v38 x2 x3 x10 x11 w39)
  (f178_8 x0 x1 x2 x3 x4 x12 x13 J2 Q w)

def f178_6 (x0 : Value) (x1 : Value) (x2 : Value) (x3 : Value) (x4 : Value) (x10 : Value) (x11 : Value) (x12 : Value) (x13 : Value) (J2 : Value → Value → Value → Value → Value → World → Prop) (Q : Value → World → Prop) (w : World) : Prop :=
  kint .i64 .gtr x1 (.int .i64 0) fun v27 =>
  kB v27 fun b28 => kIf b28
  (kint .i64 .sub x1 (.int .i64 1) fun v29 =>
  kix (some (.slice 49)) (some 6) x0 v29 fun v30 =>
  kldN 6 v30 w.drew fun v31 =>
  kG (w.drew = w.drew) <|
  kix (some (.slice 49)) (some 6) x0 x13 fun v32 =>
  kldN 6 v32 w.drew fun v33 =>
  kG (w.drew = w.drew) <|
  kcallV Tryz.prog x4 [v31, v33] w.drew fun v34 w35 =>
  kint .i64 .lss v34 (.int .i64 0) fun v36 =>
  kun .not (some .bool) v36 fun v37 =>
  f178_7 x0 x1 x2 x3 x4 x10 x11 x12 x13 v37 J2 Q w35)
  (f178_7 x0 x1 x2 x3 x4 x10 x11 x12 x13 (.bool false) J2 Q w.drew)

def f178_5 (x0 : Value) (x1 : Value) (x2 : Value) (x3 : Value) (x4 : Value) (x10 : Value) (x11 : Value) (x12 : Value) (x13 : Value) (x75 : Value) (J2 : Value → Value → Value → Value → Value → World → Prop) (Q : Value → World → Prop) (w : World) : Prop :=
  kB x75 fun b59 => kIf b59
  (kcall Tryz.prog 218 #[x0, x1, x2, x4] w fun v25 w26 =>
  kB v25 fun b58 => kIf b58
  (Q (.tuple #[]) w26)
  (f178_6 x0 x1 x2 x3 x4 x10 x11 x12 x13 J2 Q w26))
  (f178_6 x0 x1 x2 x3 x4 x10 x11 x12 x13 J2 Q w)

def f178_4 (x0 : Value) (x1 : Value) (x2 : Value) (x3 : Value) (x4 : Value) (x10 : Value) (x11 : Value) (x12 : Value) (x13 : Value) (x14 : Value) (J2 : Value → Value → Value → Value → Value → World → Prop) (Q : Value → World → Prop) (w : World) : Prop :=
  kB x10 fun b22 => kIf b22
  (kB x11 fun b23 => kIf b23
  (kint .i64 .eql x14 (.int .i64 1) fun v24 =>
  f178_5 x0 x1 x2 x3 x4 x10 x11 x12 x13 v24 J2 Q w)
  (f178_5 x0 x1 x2 x3 x4 x10 x11 x12 x13 (.bool false) J2 Q w))
  (f178_5 x0 x1 x2 x3 x4 x10 x11 x12 x13 (.bool false) J2 Q w)

def f178_3 (x0 : Value) (x1 : Value) (x2 : Value) (x3 : Value) (x4 : Value) (x10 : Value) (x11 : Value) (x12 : Value) (J2 : Value → Value → Value → Value → Value → World → Prop) (Q : Value → World → Prop) (w : World) : Prop :=
  kcall Tryz.prog 216 #[x0, x1, x2, x4] w fun v12 w13 =>
  kext v12 0 fun v14 =>
  kext v12 1 fun v15 =>
  kint .i64 .eql v15 (.int .i64 2) fun v16 =>
  kB v16 fun b60 => kIf b60
  (kcall Tryz.prog 217 #[x0, x1, x2, x4] w13 fun v17 w18 =>
  kint .i64 .sub x2 (.int .i64 1) fun v19 =>
  kint .i64 .sub v14 x1 fun v20 =>
  kint .i64 .sub v19 v20 fun v21 =>
  f178_4 x0 x1 x2 x3 x4 x10 x11 x12 v21 (.int .i64 1) J2 Q w18)
  (f178_4 x0 x1 x2 x3 x4 x10 x11 x12 v14 v15 J2 Q w13)

def f178_2 (x0 : Value) (x1 : Value) (x2 : Value) (x3 : Value) (x4 : Value) (x10 : Value) (x11 : Value) (x12 : Value) (J2 : Value → Value → Value → Value → Value → World → Prop) (Q : Value → World → Prop) (w : World) : Prop :=
  kun .not (some .bool) x10 fun v8 =>
  kB v8 fun b61 => kIf b61
  (kcall Tryz.prog 215 #[x0, x1, x2, x4] w fun v9 w10 =>
  kint .i64 .sub x3 (.int .i64 1) fun v11 =>
  f178_3 x0 x1 x2 v11 x4 x10 x11 x12 J2 Q w10)
  (f178_3 x0 x1 x2 x3 x4 x10 x11 x12 J2 Q w)

def f178_1 (x0 : Value) (x1 : Value) (x2 : Value) (x3 : Value) (x4 : Value) (x10 : Value) (x11 : Value) (x12 : Value) (J2 : Value → Value → Value → Value → Value → World → Prop) (Q : Value → World → Prop) (w : World) : Prop :=
  kint .i64 .eql x3 (.int .i64 0) fun v5 =>
  kB v5 fun b62 => kIf b62
  (kcall Tryz.prog 214 #[x0, x1, x2, x4] w fun v6 w7 =>
  Q (.tuple #[]) w7)
  (f178_2 x0 x1 x2 x3 x4 x10 x11 x12 J2 Q w)

def f178_0 (x1 : Value) (x2 : Value) (x3 : Value) (x10 : Value) (x11 : Value) (x0 : Value) (x4 : Value) (J2 : Value → Value → Value → Value → Value → World → Prop) (Q : Value → World → Prop) (w : World) : Prop :=
  kint .i64 .sub x2 x1 fun v1 =>
  kint .i64 .leq v1 (.int .i64 12) fun v2 =>
  kB v2 fun b63 => kIf b63
  (kcall Tryz.prog 213 #[x0, x1, x2, x4] w fun v3 w4 =>
  Q (.tuple #[]) w4)
  (f178_1 x0 x1 x2 x3 x4 x10 x11 v1 J2 Q w)

def f178 (x0 : Value) (x1 : Value) (x2 : Value) (x3 : Value) (x4 : Value) (Q : Value → World → Prop) (w : World) : Prop :=
  kL fun (I : Value → Value → Value → Value → Value → World → Prop) (μ : Value → Value → Value → Value → Value → World → Nat) => I x1 x2 x3 (.bool true) (.bool true) w ∧ ∀ (x1 x2 x3 x10 x11 : Value) (w1 : World), I x1 x2 x3 x10 x11 w1 →
  f178_0 x1 x2 x3 x10 x11 x0 x4 (fun y1 y2 y3 y10 y11 w2 => I y1 y2 y3 y10 y11 w2 ∧ μ y1 y2 y3 y10 y11 w2 < μ x1 x2 x3 x10 x11 w1) Q w1

theorem f178_eq (x0 : Value) (x1 : Value) (x2 : Value) (x3 : Value) (x4 : Value) (Q : Value → World → Prop) (w : World) : f178 x0 x1 x2 x3 x4 Q w = fnVC Tryz.prog Tryz.f178 [(2, [1, 2, 3, 10, 11])] (Tryz.f178.body.get rfl) [x0, x1, x2, x3, x4] w Q := by kernel_rfl
theorem f178_ok {x0 : Value} {x1 : Value} {x2 : Value} {x3 : Value} {x4 : Value} {Q : Value → World → Prop} {w : World} (h : f178 x0 x1 x2 x3 x4 Q w) : Meets Tryz.prog 178 #[x0, x1, x2, x3, x4] w Q :=
  sound (c := (Tryz.f178.body.get rfl)) [(2, [1, 2, 3, 10, 11])] Tryz.func178 rfl rfl (args := [x0, x1, x2, x3, x4]) rfl (Eq.mp (f178_eq x0 x1 x2 x3 x4 Q w) h)

/-! slices.pdqsortCmpFunc[pasodoble/api.Entity] -/
def f176_8 (x0 : Value) (x1 : Value) (x2 : Value) (x3 : Value) (x4 : Value) (x12 : Value) (x13 : Value) (J2 : Value → Value → Value → Value → Value → World → Prop) (Q : Value → World → Prop) (w : World) : Prop :=
  kcall Tryz.prog 212 #[x0, x1, x2, x13, x4] w fun v40 w41 =>
  kext v40 0 fun v42 =>
  kext v40 1 fun v43 =>
  kint .i64 .sub v42 x1 fun v44 =>
  kint .i64 .sub x2 v42 fun v45 =>
  kint .i64 .quo x12 (.int .i64 8) fun v46 =>
  kint .i64 .lss v44 v45 fun v47 =>
  kB v47 fun b56 => kIf b56
  (kint .i64 .geq v44 v46 fun v48 =>
  kcall Tryz.prog 176 #[x0, x1, v42, x3, x4] w41 fun v49 w50 =>
  kint .i64 .add v42 (.int .i64 1) fun v51 =>
  J2 v51 x2 x3 v48 v43 w50)
  (kint .i64 .geq v45 v46 fun v52 =>
  kint .i64 .add v42 (.int .i64 1) fun v53 =>
  kcall Tryz.prog 176 #[x0, v53, x2, x3, x4] w41 fun v54 w55 =>
  J2 x1 v42 x3 v52 v43 w55)

def f176_7 (x0 : Value) (x1 : Value) (x2 : Value) (x3 : Value) (x4 : Value) (x10 : Value) (x11 : Value) (x12 : Value) (x13 : Value) (x97 : Value) (J2 : Value → Value → Value → Value → Value → World → Prop) (Q : Value → World → Prop) (w : World) : Prop :=
  kB x97 fun b57 => kIf b57
  (kcall Tryz.prog 211 #[x0, x1, x2, x13, x4] w fun v38 w39 =>
  J2 v38 x2 x3 x10 x11 w39)
  (f176_8 x0 x1 x2 x3 x4 x12 x13 J2 Q w)

def f176_6 (x0 : Value) (x1 : Value) (x2 : Value) (x3 : Value) (x4 : Value) (x10 : Value) (x11 : Value) (x12 : Value) (x13 : Value) (J2 : Value → Value → Value → Value → Value → World → Prop) (Q : Value → World → Prop) (w : World) : Prop :=
  kint .i64 .gtr x1 (.int .i64 0) fun v27 =>
  kB v27 fun b28 => kIf b28
  (kint .i64 .sub x1 (.int .i64 1) fun v29 =>
  kix (some (.slice 37)) (some 2) x0 v29 fun v30 =>
  kldN 2 v30 w.drew fun v31 =>
  kG (w.drew = w.drew) <|
  kix (some (.slice 37)) (some 2) x0 x13 fun v32 =>
  kldN 2 v32 w.drew fun v33 =>
  kG (w.drew = w.drew) <|
  kcallV Tryz.prog x4 [v31, v33] w.drew fun v34 w35 =>
  kint .i64 .lss v34 (.int .i64 0) fun v36 =>
  kun .not (some .bool) v36 fun v37 =>
  f176_7 x0 x1 x2 x3 x4 x10 x11 x12 x13 v37 J2 Q w35)
  (f176_7 x0 x1 x2 x3 x4 x10 x11 x12 x13 (.bool false) J2 Q w.drew)

def f176_5 (x0 : Value) (x1 : Value) (x2 : Value) (x3 : Value) (x4 : Value) (x10 : Value) (x11 : Value) (x12 : Value) (x13 : Value) (x75 : Value) (J2 : Value → Value → Value → Value → Value → World → Prop) (Q : Value → World → Prop) (w : World) : Prop :=
  kB x75 fun b59 => kIf b59
  (kcall Tryz.prog 210 #[x0, x1, x2, x4] w fun v25 w26 =>
  kB v25 fun b58 => kIf b58
  (Q (.tuple #[]) w26)
  (f176_6 x0 x1 x2 x3 x4 x10 x11 x12 x13 J2 Q w26))
  (f176_6 x0 x1 x2 x3 x4 x10 x11 x12 x13 J2 Q w)

def f176_4 (x0 : Value) (x1 : Value) (x2 : Value) (x3 : Value) (x4 : Value) (x10 : Value) (x11 : Value) (x12 : Value) (x13 : Value) (x14 : Value) (J2 : Value → Value → Value → Value → Value → World → Prop) (Q : Value → World → Prop) (w : World) : Prop :=
  kB x10 fun b22 => kIf b22
  (kB x11 fun b23 => kIf b23
  (kint .i64 .eql x14 (.int .i64 1) fun v24 =>
  f176_5 x0 x1 x2 x3 x4 x10 x11 x12 x13 v24 J2 Q w)
  (f176_5 x0 x1 x2 x3 x4 x10 x11 x12 x13 (.bool false) J2 Q w))
  (f176_5 x0 x1 x2 x3 x4 x10 x11 x12 x13 (.bool false) J2 Q w)

def f176_3 (x0 : Value) (x1 : Value) (x2 : Value) (x3 : Value) (x4 : Value) (x10 : Value) (x11 : Value) (x12 : Value) (J2 : Value → Value → Value → Value → Value → World → Prop) (Q : Value → World → Prop) (w : World) : Prop :=
  kcall Tryz.prog 208 #[x0, x1, x2, x4] w fun v12 w13 =>
  kext v12 0 fun v14 =>
  kext v12 1 fun v15 =>
  kint .i64 .eql v15 (.int .i64 2) fun v16 =>
  kB v16 fun b60 => kIf b60
  (kcall Tryz.prog 209 #[x0, x1, x2, x4] w13 fun v17 w18 =>
  kint .i64 .sub x2 (.int .i64 1) fun v19 =>
  kint .i64 .sub v14 x1 fun v20 =>
  kint .i64 .sub v19 v20 fun v21 =>
  f176_4 x0 x1 x2 x3 x4 x10 x11 x12 v21 (.int .i64 1) J2 Q w18)
  (f176_4 x0 x1 x2 x3 x4 x10 x11 x12 v14 v15 J2 Q w13)

def f176_2 (x0 : Value) (x1 : Value) (x2 : Value) (x3 : Value) (x4 : Value) (x10 : Value) (x11 : Value) (x12 : Value) (J2 : Value → Value → Value → Value → Value → World → Prop) (Q : Value → World → Prop) (w : World) : Prop :=
  kun .not (some .bool) x10 fun v8 =>
  kB v8 fun b61 => kIf b61
  (kcall Tryz.prog 207 #[x0, x1, x2, x4] w fun v9 w10 =>
  kint .i64 .sub x3 (.int .i64 1) fun v11 =>
  f176_3 x0 x1 x2 v11 x4 x10 x11 x12 J2 Q w10)
  (f176_3 x0 x1 x2 x3 x4 x10 x11 x12 J2 Q w)

def f176_1 (x0 : Value) (x1 : Value) (x2 : Value) (x3 : Value) (x4 : Value) (x10 : Value) (x11 : Value) (x12 : Value) (J2 : Value → Value → Value → Value → Value → World → Prop) (Q : Value → World → Prop) (w : World) : Prop :=
  kint .i64 .eql x3 (.int .i64 0) fun v5 =>
  kB v5 fun b62 => kIf b62
  (kcall Tryz.prog 206 #[x0, x1, x2, x4] w fun v6 w7 =>
  Q (.tuple #[]) w7)
  (f176_2 x0 x1 x2 x3 x4 x10 x11 x12 J2 Q w)

def f176_0 (x1 : Value) (x2 : Value) (x3 : Value) (x10 : Value) (x11 : Value) (x0 : Value) (x4 : Value) (J2 : Value → Value → Value → Value → Value → World → Prop) (Q : Value → World → Prop) (w : World) : Prop :=
  kint .i64 .sub x2 x1 fun v1 =>
  kint .i64 .leq v1 (.int .i64 12) fun v2 =>
  kB v2 fun b63 => kIf b63
  (kcall Tryz.prog 205 #[x0, x1, x2, x4] w fun v3 w4 =>
  Q (.tuple #[]) w4)
  (f176_1 x0 x1 x2 x3 x4 x10 x11 v1 J2 Q w)

def f176 (x0 : Value) (x1 : Value) (x2 : Value) (x3 : Value) (x4 : Value) (Q : Value → World → Prop) (w : World) : Prop :=
  kL fun (I : Value → Value → Value → Value → Value → World → Prop) (μ : Value → Value → Value → Value → Value → World → Nat) => I x1 x2 x3 (.bool true) (.bool true) w ∧ ∀ (x1 x2 x3 x10 x11 : Value) (w1 : World), I x1 x2 x3 x10 x11 w1 →
  f176_0 x1 x2 x3 x10 x11 x0 x4 (fun y1 y2 y3 y10 y11 w2 => I y1 y2 y3 y10 y11 w2 ∧ μ y1 y2 y3 y10 y11 w2 < μ x1 x2 x3 x10 x11 w1) Q w1

theorem f176_eq (x0 : Value) (x1 : Value) (x2 : Value) (x3 : Value) (x4 : Value) (Q : Value → World → Prop) (w : World) : f176 x0 x1 x2 x3 x4 Q w = fnVC Tryz.prog Tryz.f176 [(2, [1, 2, 3, 10, 11])] (Tryz.f176.body.get rfl) [x0, x1, x2, x3, x4] w Q := by kernel_rfl
theorem f176_ok {x0 : Value} {x1 : Value} {x2 : Value} {x3 : Value} {x4 : Value} {Q : Value → World → Prop} {w : World} (h : f176 x0 x1 x2 x3 x4 Q w) : Meets Tryz.prog 176 #[x0, x1, x2, x3, x4] w Q :=
  sound (c := (Tryz.f176.body.get rfl)) [(2, [1, 2, 3, 10, 11])] Tryz.func176 rfl rfl (args := [x0, x1, x2, x3, x4]) rfl (Eq.mp (f176_eq x0 x1 x2 x3 x4 Q w) h)

/-! slices.insertionSortCmpFunc[pasodoble/api.Part] -/
def f213_5 (x0 : Value) (x1 : Value) (x2 : Value) (x3 : Value) (x8 : Value) (x9 : Value) (J4 : Value → World → Prop) (J1 : Value → World → Prop) (Q : Value → World → Prop) (w : World) : Prop :=
  kint .i64 .sub x9 (.int .i64 1) fun v23 =>
  J4 v23 w

def f213_4 (x0 : Value) (x1 : Value) (x2 : Value) (x3 : Value) (x8 : Value) (x9 : Value) (J4 : Value → World → Prop) (J1 : Value → World → Prop) (Q : Value → World → Prop) (w : World) : Prop :=
  kint .i64 .sub x9 (.int .i64 1) fun v13 =>
  kint .i64 .sub x9 (.int .i64 1) fun v14 =>
  kix (some (.slice 49)) (some 6) x0 v14 fun v15 =>
  kldN 6 v15 w.drew fun v16 =>
  kG (w.drew = w.drew) <|
  kix (some (.slice 49)) (some 6) x0 x9 fun v17 =>
  kldN 6 v17 w.drew fun v18 =>
  kG (w.drew = w.drew) <|
  kix (some (.slice 49)) (some 6) x0 x9 fun v19 =>
  kst 6 v19 v16 w.drew fun w20 =>
  kix (some (.slice 49)) (some 6) x0 v13 fun v21 =>
  kst 6 v21 v18 w20 fun w22 =>
  f213_5 x0 x1 x2 x3 x8 x9 J4 J1 Q w22

def f213_6 (x0 : Value) (x1 : Value) (x2 : Value) (x3 : Value) (x8 : Value) (J1 : Value → World → Prop) (Q : Value → World → Prop) (w : World) : Prop :=
  kint .i64 .add x8 (.int .i64 1) fun v24 =>
  J1 v24 w

def f213_3 (x0 : Value) (x1 : Value) (x2 : Value) (x3 : Value) (x8 : Value) (x9 : Value) (x34 : Value) (J4 : Value → World → Prop) (J1 : Value → World → Prop) (Q : Value → World → Prop) (w : World) : Prop :=
  kB x34 fun b25 => kIf b25
  (f213_4 x0 x1 x2 x3 x8 x9 J4 J1 Q w)
  (f213_6 x0 x1 x2 x3 x8 J1 Q w)

def f213_2 (x9 : Value) (x0 : Value) (x1 : Value) (x2 : Value) (x3 : Value) (x8 : Value) (J4 : Value → World → Prop) (J1 : Value → World → Prop) (Q : Value → World → Prop) (w : World) : Prop :=
  kint .i64 .gtr x9 x1 fun v3 =>
  kB v3 fun b4 => kIf b4
  (kix (some (.slice 49)) (some 6) x0 x9 fun v5 =>
  kldN 6 v5 w.drew fun v6 =>
  kG (w.drew = w.drew) <|
  kint .i64 .sub x9 (.int .i64 1) fun v7 =>
  kix (some (.slice 49)) (some 6) x0 v7 fun v8 =>
  kldN 6 v8 w.drew fun v9 =>
  kG (w.drew = w.drew) <|
  kcallV Tryz.prog x3 [v6, v9] w.drew fun v10 w11 =>
  kint .i64 .lss v10 (.int .i64 0) fun v12 =>
  f213_3 x0 x1 x2 x3 x8 x9 v12 J4 J1 Q w11)
  (f213_3 x0 x1 x2 x3 x8 x9 (.bool false) J4 J1 Q w.drew)

def f213_1 (x0 : Value) (x1 : Value) (x2 : Value) (x3 : Value) (x8 : Value) (J1 : Value → World → Prop) (Q : Value → World → Prop) (w : World) : Prop :=
  kL fun (I : Value → World → Prop) (μ : Value → World → Nat) => I x8 w ∧ ∀ (x9 : Value) (w1 : World), I x9 w1 →
  f213_2 x9 x0 x1 x2 x3 x8 (fun y9 w2 => I y9 w2 ∧ μ y9 w2 < μ x9 w1) J1 Q w1

def f213_0 (x8 : Value) (x0 : Value) (x1 : Value) (x2 : Value) (x3 : Value) (J1 : Value → World → Prop) (Q : Value → World → Prop) (w : World) : Prop :=
  kint .i64 .lss x8 x2 fun v2 =>
  kB v2 fun b26 => kIf b26
  (f213_1 x0 x1 x2 x3 x8 J1 Q w)
  (Q (.tuple #[]) w)

def f213 (x0 : Value) (x1 : Value) (x2 : Value) (x3 : Value) (Q : Value → World → Prop) (w : World) : Prop :=
  kint .i64 .add x1 (.int .i64 1) fun v1 =>
  kL fun (I : Value → World → Prop) (μ : Value → World → Nat) => I v1 w ∧ ∀ (x8 : Value) (w1 : World), I x8 w1 →
  f213_0 x8 x0 x1 x2 x3 (fun y8 w2 => I y8 w2 ∧ μ y8 w2 < μ x8 w1) Q w1

theorem f213_eq (x0 : Value) (x1 : Value) (x2 : Value) (x3 : Value) (Q : Value → World → Prop) (w : World) : f213 x0 x1 x2 x3 Q w = fnVC Tryz.prog Tryz.f213 [(1, [8]), (4, [9])] (Tryz.f213.body.get rfl) [x0, x1, x2, x3] w Q := by kernel_rfl
theorem f213_ok {x0 : Value} {x1 : Value} {x2 : Value} {x3 : Value} {Q : Value → World → Prop} {w : World} (h : f213 x0 x1 x2 x3 Q w) : Meets Tryz.prog 213 #[x0, x1, x2, x3] w Q :=
  sound (c := (Tryz.f213.body.get rfl)) [(1, [8]), (4, [9])] Tryz.func213 rfl rfl (args := [x0, x1, x2, x3]) rfl (Eq.mp (f213_eq x0 x1 x2 x3 Q w) h)

/-! slices.insertionSortCmpFunc[pasodoble/api.Entity] -/
def f205_5 (x0 : Value) (x1 : Value) (x2 : Value) (x3 : Value) (x8 : Value) (x9 : Value) (J4 : Value → World → Prop) (J1 : Value → World → Prop) (Q : Value → World → Prop) (w : World) : Prop :=
  kint .i64 .sub x9 (.int .i64 1) fun v23 =>
  J4 v23 w

def f205_4 (x0 : Value) (x1 : Value) (x2 : Value) (x3 : Value) (x8 : Value) (x9 : Value) (J4 : Value → World → Prop) (J1 : Value → World → Prop) (Q : Value → World → Prop) (w : World) : Prop :=
  kint .i64 .sub x9 (.int .i64 1) fun v13 =>
  kint .i64 .sub x9 (.int .i64 1) fun v14 =>
  kix (some (.slice 37)) (some 2) x0 v14 fun v15 =>
  kldN 2 v15 w.drew fun v16 =>
  kG (w.drew = w.drew) <|
  kix (some (.slice 37)) (some 2) x0 x9 fun v17 =>
  kldN 2 v17 w.drew fun v18 =>
  kG (w.drew = w.drew) <|
  kix (some (.slice 37)) (some 2) x0 x9 fun v19 =>
  kst 2 v19 v16 w.drew fun w20 =>
  kix (some (.slice 37)) (some 2) x0 v13 fun v21 =>
  kst 2 v21 v18 w20 fun w22 =>
  f205_5 x0 x1 x2 x3 x8 x9 J4 J1 Q w22

def f205_6 (x0 : Value) (x1 : Value) (x2 : Value) (x3 : Value) (x8 : Value) (J1 : Value → World → Prop) (Q : Value → World → Prop) (w : World) : Prop :=
  kint .i64 .add x8 (.int .i64 1) fun v24 =>
  J1 v24 w

def f205_3 (x0 : Value) (x1 : Value) (x2 : Value) (x3 : Value) (x8 : Value) (x9 : Value) (x34 : Value) (J4 : Value → World → Prop) (J1 : Value → World → Prop) (Q : Value → World → Prop) (w : World) : Prop :=
  kB x34 fun b25 => kIf b25
  (f205_4 x0 x1 x2 x3 x8 x9 J4 J1 Q w)
  (f205_6 x0 x1 x2 x3 x8 J1 Q w)

def f205_2 (x9 : Value) (x0 : Value) (x1 : Value) (x2 : Value) (x3 : Value) (x8 : Value) (J4 : Value → World → Prop) (J1 : Value → World → Prop) (Q : Value → World → Prop) (w : World) : Prop :=
  kint .i64 .gtr x9 x1 fun v3 =>
  kB v3 fun b4 => kIf b4
  (kix (some (.slice 37)) (some 2) x0 x9 fun v5 =>
  kldN 2 v5 w.drew fun v6 =>
  kG (w.drew = w.drew) <|
  kint .i64 .sub x9 (.int .i64 1) fun v7 =>
  kix (some (.slice 37)) (some 2) x0 v7 fun v8 =>
  kldN 2 v8 w.drew fun v9 =>
  kG (w.drew = w.drew) <|
  kcallV Tryz.prog x3 [v6, v9] w.drew fun v10 w11 =>
  kint .i64 .lss v10 (.int .i64 0) fun v12 =>
  f205_3 x0 x1 x2 x3 x8 x9 v12 J4 J1 Q w11)
  (f205_3 x0 x1 x2 x3 x8 x9 (.bool false) J4 J1 Q w.drew)

def f205_1 (x0 : Value) (x1 : Value) (x2 : Value) (x3 : Value) (x8 : Value) (J1 : Value → World → Prop) (Q : Value → World → Prop) (w : World) : Prop :=
  kL fun (I : Value → World → Prop) (μ : Value → World → Nat) => I x8 w ∧ ∀ (x9 : Value) (w1 : World), I x9 w1 →
  f205_2 x9 x0 x1 x2 x3 x8 (fun y9 w2 => I y9 w2 ∧ μ y9 w2 < μ x9 w1) J1 Q w1

def f205_0 (x8 : Value) (x0 : Value) (x1 : Value) (x2 : Value) (x3 : Value) (J1 : Value → World → Prop) (Q : Value → World → Prop) (w : World) : Prop :=
  kint .i64 .lss x8 x2 fun v2 =>
  kB v2 fun b26 => kIf b26
  (f205_1 x0 x1 x2 x3 x8 J1 Q w)
  (Q (.tuple #[]) w)

def f205 (x0 : Value) (x1 : Value) (x2 : Value) (x3 : Value) (Q : Value → World → Prop) (w : World) : Prop :=
  kint .i64 .add x1 (.int .i64 1) fun v1 =>
  kL fun (I : Value → World → Prop) (μ : Value → World → Nat) => I v1 w ∧ ∀ (x8 : Value) (w1 : World), I x8 w1 →
  f205_0 x8 x0 x1 x2 x3 (fun y8 w2 => I y8 w2 ∧ μ y8 w2 < μ x8 w1) Q w1

theorem f205_eq (x0 : Value) (x1 : Value) (x2 : Value) (x3 : Value) (Q : Value → World → Prop) (w : World) : f205 x0 x1 x2 x3 Q w = fnVC Tryz.prog Tryz.f205 [(1, [8]), (4, [9])] (Tryz.f205.body.get rfl) [x0, x1, x2, x3] w Q := by kernel_rfl
theorem f205_ok {x0 : Value} {x1 : Value} {x2 : Value} {x3 : Value} {Q : Value → World → Prop} {w : World} (h : f205 x0 x1 x2 x3 Q w) : Meets Tryz.prog 205 #[x0, x1, x2, x3] w Q :=
  sound (c := (Tryz.f205.body.get rfl)) [(1, [8]), (4, [9])] Tryz.func205 rfl rfl (args := [x0, x1, x2, x3]) rfl (Eq.mp (f205_eq x0 x1 x2 x3 Q w) h)

end Go.Proofs.YtlkpadfkmdgjcaaGreatDoor
end
section
set_option linter.unusedSimpArgs false
set_option linter.unusedVariables false
namespace Go.Proofs.YtlkpadfkmdgjcaaGreatDoor
open Go.Shelf
def sortPart_ren : Go.Shelf.Ren := ⟨fun | 6 => 148 | 15 => 164 | 14 => 178 | 28 => 193 | 29 => 194 | 20 => 213 | 21 => 214 | 22 => 215 | 23 => 216 | 24 => 217 | 25 => 218 | 26 => 219 | 27 => 220 | 46 => 233 | 47 => 224 | 48 => 225 | 49 => 234 | 50 => 235 | 57 => 244 | n => n, fun | 22 => 40 | 24 => 49 | 25 => 254 | 3 => 3 | 39 => 46 | 0 => 0 | 53 => 23 | 55 => 304 | 4 => 4 | 46 => 297 | 45 => 296 | 50 => 113 | 5 => 5 | 9 => 9 | 66 => 322 | 70 => 326 | 76 => 336 | 77 => 337 | n => n, fun | n => n⟩
theorem sortPart : Go.Proofs.SlLaysF0.n6 Tryz.prog sortPart_ren := {
  mixed := by kernel_rfl
  f6 := ⟨Tryz.f148.name, by decide, Tryz.func148.trans (congrArg some (by kernel_rfl))⟩
  f14 := ⟨Tryz.f178.name, by decide, Tryz.func178.trans (congrArg some (by kernel_rfl))⟩
  f15 := Tryz.func164.trans (congrArg some (by kernel_rfl))
  f20 := ⟨Tryz.f213.name, by decide, Tryz.func213.trans (congrArg some (by kernel_rfl))⟩
  f21 := ⟨Tryz.f214.name, by decide, Tryz.func214.trans (congrArg some (by kernel_rfl))⟩
  f22 := ⟨Tryz.f215.name, by decide, Tryz.func215.trans (congrArg some (by kernel_rfl))⟩
  f23 := ⟨Tryz.f216.name, by decide, Tryz.func216.trans (congrArg some (by kernel_rfl))⟩
  f24 := ⟨Tryz.f217.name, by decide, Tryz.func217.trans (congrArg some (by kernel_rfl))⟩
  f25 := ⟨Tryz.f218.name, by decide, Tryz.func218.trans (congrArg some (by kernel_rfl))⟩
  f26 := ⟨Tryz.f219.name, by decide, Tryz.func219.trans (congrArg some (by kernel_rfl))⟩
  f27 := ⟨Tryz.f220.name, by decide, Tryz.func220.trans (congrArg some (by kernel_rfl))⟩
  f28 := Tryz.func193.trans (congrArg some (by kernel_rfl))
  f29 := Tryz.func194.trans (congrArg some (by kernel_rfl))
  f46 := ⟨Tryz.f233.name, by decide, Tryz.func233.trans (congrArg some (by kernel_rfl))⟩
  f47 := Tryz.func224.trans (congrArg some (by kernel_rfl))
  f48 := Tryz.func225.trans (congrArg some (by kernel_rfl))
  f49 := ⟨Tryz.f234.name, by decide, Tryz.func234.trans (congrArg some (by kernel_rfl))⟩
  f50 := ⟨Tryz.f235.name, by decide, Tryz.func235.trans (congrArg some (by kernel_rfl))⟩
  f57 := ⟨Tryz.f244.name, by decide, Tryz.func244.trans (congrArg some (by kernel_rfl))⟩
  t0 := Tryz.underlying0
  a0 := Tryz.isAgg0
  z0 := Tryz.sizeOf0
  v0 := Tryz.zeroValue0
  t3 := Tryz.underlying3
  a3 := Tryz.isAgg3
  z3 := Tryz.sizeOf3
  v3 := Tryz.zeroValue3
  t4 := Tryz.underlying4
  a4 := Tryz.isAgg4
  z4 := Tryz.sizeOf4
  v4 := Tryz.zeroValue4
  t5 := Tryz.underlying5
  a5 := Tryz.isAgg5
  z5 := Tryz.sizeOf5
  v5 := Tryz.zeroValue5
  t9 := Tryz.underlying9
  a9 := Tryz.isAgg9
  z9 := Tryz.sizeOf9
  v9 := Tryz.zeroValue9
  t22 := Tryz.underlying40
  a22 := Tryz.isAgg40
  z22 := Tryz.sizeOf40
  v22 := Tryz.zeroValue40
  t25 := Tryz.underlying254
  a25 := Tryz.isAgg254
  z25 := Tryz.sizeOf254
  v25 := Tryz.zeroValue254
  t39 := Tryz.underlying46
  a39 := Tryz.isAgg46
  z39 := Tryz.sizeOf46
  v39 := Tryz.zeroValue46
  t45 := Tryz.underlying296
  a45 := Tryz.isAgg296
  z45 := Tryz.sizeOf296
  v45 := Tryz.zeroValue296
  t46 := Tryz.underlying297
  a46 := Tryz.isAgg297
  z46 := Tryz.sizeOf297
  v46 := Tryz.zeroValue297
  t50 := Tryz.underlying113
  a50 := Tryz.isAgg113
  z50 := Tryz.sizeOf113
  v50 := Tryz.zeroValue113
  t53 := Tryz.underlying23
  a53 := Tryz.isAgg23
  z53 := Tryz.sizeOf23
  v53 := Tryz.zeroValue23
  t55 := Tryz.underlying304
  a55 := Tryz.isAgg304
  z55 := Tryz.sizeOf304
  v55 := Tryz.zeroValue304
  t66 := Tryz.underlying322
  a66 := Tryz.isAgg322
  z66 := Tryz.sizeOf322
  v66 := Tryz.zeroValue322
  t70 := Tryz.underlying326
  a70 := Tryz.isAgg326
  z70 := Tryz.sizeOf326
  v70 := Tryz.zeroValue326
  t76 := Tryz.underlying336
  a76 := Tryz.isAgg336
  z76 := Tryz.sizeOf336
  v76 := Tryz.zeroValue336
  t77 := Tryz.underlying337
  a77 := Tryz.isAgg337
  z77 := Tryz.sizeOf337
  v77 := Tryz.zeroValue337 }
def sortEnt_ren : Go.Shelf.Ren := ⟨fun | 6 => 142 | 15 => 164 | 14 => 176 | 28 => 193 | 29 => 194 | 20 => 205 | 21 => 206 | 22 => 207 | 23 => 208 | 24 => 209 | 25 => 210 | 26 => 211 | 27 => 212 | 46 => 230 | 47 => 224 | 48 => 225 | 49 => 231 | 50 => 232 | 57 => 243 | n => n, fun | 22 => 42 | 24 => 37 | 25 => 239 | 3 => 3 | 39 => 46 | 0 => 0 | 53 => 23 | 55 => 304 | 4 => 4 | 46 => 297 | 45 => 296 | 50 => 113 | 5 => 5 | 9 => 9 | 66 => 322 | 70 => 326 | 76 => 336 | 77 => 337 | n => n, fun | n => n⟩
theorem sortEnt : Go.Proofs.SlLaysF0.n6 Tryz.prog sortEnt_ren := {
  mixed := by kernel_rfl
  f6 := ⟨Tryz.f142.name, by decide, Tryz.func142.trans (congrArg some (by kernel_rfl))⟩
  f14 := ⟨Tryz.f176.name, by decide, Tryz.func176.trans (congrArg some (by kernel_rfl))⟩
  f15 := Tryz.func164.trans (congrArg some (by kernel_rfl))
  f20 := ⟨Tryz.f205.name, by decide, Tryz.func205.trans (congrArg some (by kernel_rfl))⟩
  f21 := ⟨Tryz.f206.name, by decide, Tryz.func206.trans (congrArg some (by kernel_rfl))⟩
  f22 := ⟨Tryz.f207.name, by decide, Tryz.func207.trans (congrArg some (by kernel_rfl))⟩
  f23 := ⟨Tryz.f208.name, by decide, Tryz.func208.trans (congrArg some (by kernel_rfl))⟩
  f24 := ⟨Tryz.f209.name, by decide, Tryz.func209.trans (congrArg some (by kernel_rfl))⟩
  f25 := ⟨Tryz.f210.name, by decide, Tryz.func210.trans (congrArg some (by kernel_rfl))⟩
  f26 := ⟨Tryz.f211.name, by decide, Tryz.func211.trans (congrArg some (by kernel_rfl))⟩
  f27 := ⟨Tryz.f212.name, by decide, Tryz.func212.trans (congrArg some (by kernel_rfl))⟩
  f28 := Tryz.func193.trans (congrArg some (by kernel_rfl))
  f29 := Tryz.func194.trans (congrArg some (by kernel_rfl))
  f46 := ⟨Tryz.f230.name, by decide, Tryz.func230.trans (congrArg some (by kernel_rfl))⟩
  f47 := Tryz.func224.trans (congrArg some (by kernel_rfl))
  f48 := Tryz.func225.trans (congrArg some (by kernel_rfl))
  f49 := ⟨Tryz.f231.name, by decide, Tryz.func231.trans (congrArg some (by kernel_rfl))⟩
  f50 := ⟨Tryz.f232.name, by decide, Tryz.func232.trans (congrArg some (by kernel_rfl))⟩
  f57 := ⟨Tryz.f243.name, by decide, Tryz.func243.trans (congrArg some (by kernel_rfl))⟩
  t0 := Tryz.underlying0
  a0 := Tryz.isAgg0
  z0 := Tryz.sizeOf0
  v0 := Tryz.zeroValue0
  t3 := Tryz.underlying3
  a3 := Tryz.isAgg3
  z3 := Tryz.sizeOf3
  v3 := Tryz.zeroValue3
  t4 := Tryz.underlying4
  a4 := Tryz.isAgg4
  z4 := Tryz.sizeOf4
  v4 := Tryz.zeroValue4
  t5 := Tryz.underlying5
  a5 := Tryz.isAgg5
  z5 := Tryz.sizeOf5
  v5 := Tryz.zeroValue5
  t9 := Tryz.underlying9
  a9 := Tryz.isAgg9
  z9 := Tryz.sizeOf9
  v9 := Tryz.zeroValue9
  t22 := Tryz.underlying42
  a22 := Tryz.isAgg42
  z22 := Tryz.sizeOf42
  v22 := Tryz.zeroValue42
  t25 := Tryz.underlying239
  a25 := Tryz.isAgg239
  z25 := Tryz.sizeOf239
  v25 := Tryz.zeroValue239
  t39 := Tryz.underlying46
  a39 := Tryz.isAgg46
  z39 := Tryz.sizeOf46
  v39 := Tryz.zeroValue46
  t45 := Tryz.underlying296
  a45 := Tryz.isAgg296
  z45 := Tryz.sizeOf296
  v45 := Tryz.zeroValue296
  t46 := Tryz.underlying297
  a46 := Tryz.isAgg297
  z46 := Tryz.sizeOf297
  v46 := Tryz.zeroValue297
  t50 := Tryz.underlying113
  a50 := Tryz.isAgg113
  z50 := Tryz.sizeOf113
  v50 := Tryz.zeroValue113
  t53 := Tryz.underlying23
  a53 := Tryz.isAgg23
  z53 := Tryz.sizeOf23
  v53 := Tryz.zeroValue23
  t55 := Tryz.underlying304
  a55 := Tryz.isAgg304
  z55 := Tryz.sizeOf304
  v55 := Tryz.zeroValue304
  t66 := Tryz.underlying322
  a66 := Tryz.isAgg322
  z66 := Tryz.sizeOf322
  v66 := Tryz.zeroValue322
  t70 := Tryz.underlying326
  a70 := Tryz.isAgg326
  z70 := Tryz.sizeOf326
  v70 := Tryz.zeroValue326
  t76 := Tryz.underlying336
  a76 := Tryz.isAgg336
  z76 := Tryz.sizeOf336
  v76 := Tryz.zeroValue336
  t77 := Tryz.underlying337
  a77 := Tryz.isAgg337
  z77 := Tryz.sizeOf337
  v77 := Tryz.zeroValue337 }
end Go.Proofs.YtlkpadfkmdgjcaaGreatDoor
end
section
set_option linter.unusedSimpArgs false
set_option linter.unusedVariables false
namespace Go.Ev
open Go Go.RowKit Go.Sort Go.Proofs
/-! ### The library's sort of records: its contract, as blocks and lists tell it -/
section
variable {α : Type} [Inhabited α] {enc : α → List Value} {k : Nat}
theorem flatK_list (hk : ∀ x, (enc x).length = k) (L : List α) : (flatK enc k L.toArray).toList = L.flatMap enc := by
  apply List.ext_getElem?
  intro t
  rcases Nat.lt_or_ge t (L.length * k) with ht | ht
  · have k0 : 0 < k := by
      rcases Nat.eq_zero_or_pos k with h | h
      · subst h; simp at ht
      · exact h
    have hi : t / k < L.length := Nat.div_lt_of_lt_mul (by rw [Nat.mul_comm]; exact ht)
    have hj : t % k < k := Nat.mod_lt _ k0
    have h1 := get_flatK enc k L.toArray t (by simpa using ht)
    have h2 := flat_cell hk hi hj
    rw [show t / k * k + t % k = t by rw [Nat.mul_comm]; exact Nat.div_add_mod t k] at h2
    rw [h2]
    have hs : t < (flatK enc k L.toArray).size := by simpa using ht
    rw [getElem!_pos _ t hs] at h1
    rw [Array.getElem?_toList, Array.getElem?_eq_getElem hs, h1]
    have e1 : L.toArray[t / k]! = L[t / k] := by rw [getElem!_pos _ _ (by simpa using hi)]; simp
    rw [e1, getElem!_pos _ _ (by rw [hk]; exact hj), List.getElem?_eq_getElem (by rw [hk]; exact hj)]
  · rw [List.getElem?_eq_none (by simpa using ht), List.getElem?_eq_none (by rw [flat_len enc k hk]; exact ht)]
theorem putCells_list (F arr : Array Value) (off : Nat) (h : off + F.size ≤ arr.size) : putCells id off F arr = setAll F.toList arr off := by
  apply Array.ext'
  rw [setAll_list _ _ _ (by simpa using h)]
  apply List.ext_getElem?
  intro i
  have hl : (arr.toList.take off).length = off := by rw [List.length_take, Array.length_toList]; omega
  unfold putCells
  rw [Array.getElem?_toList, Array.getElem?_mapIdx, List.append_assoc]
  rcases Nat.lt_or_ge i off with h1 | h1
  · rw [List.getElem?_append_left (by omega), List.getElem?_take_of_lt h1]
    have hi : i < arr.size := by omega
    rw [Array.getElem?_eq_getElem hi, Option.map_some, if_neg (by omega)]
    simp [hi]
  · rw [List.getElem?_append_right (by omega), hl]
    rcases Nat.lt_or_ge i (off + F.size) with h2 | h2
    · rw [List.getElem?_append_left (by rw [Array.length_toList]; omega)]
      have hi : i < arr.size := by omega
      rw [Array.getElem?_eq_getElem hi, Option.map_some, if_pos ⟨h1, h2⟩, getElem!_pos F (i - off) (by omega), Array.getElem?_toList, Array.getElem?_eq_getElem (show i - off < F.size by omega)]
      rfl
    · rw [List.getElem?_append_right (by rw [Array.length_toList]; omega), List.getElem?_drop, Array.length_toList, show off + F.size + (i - off - F.size) = i by omega]
      by_cases hi : i < arr.size
      · rw [Array.getElem?_eq_getElem hi, Option.map_some, if_neg (by omega)]
        simp [hi]
      · rw [Array.getElem?_eq_none (by omega), Option.map_none, List.getElem?_eq_none (by rw [Array.length_toList]; omega)]
theorem mapBlock_blk (w : World) (b : Nat) (f : Array Value → Array Value) (i : Nat) : blk (mapBlock w b f) i = if i = b then (blk w i).map (fun o => match o with | .cells c t fr => .cells (f c) t fr | o => o) else blk w i := by
  unfold mapBlock blk
  simp only [Array.getElem?_modify]
  by_cases h : b = i
  · subst h
    simp only [if_true]
    cases w.heap[b]? with
    | none => rfl
    | some o => cases o <;> rfl
  · rw [if_neg h, if_neg (fun e => h e.symm)]
theorem sortW_mod {w : World} {b n : Nat} {arr : Array Value} {t : TypeId} (hb : blk w b = some (.cells arr t)) (d : Array α) (os : Array Obj) (hs : (flatK enc k d).size ≤ arr.size) :
    Mod (fun i => i = b) w (sortWorldK enc k w b 0 n d os) ∧ blk (sortWorldK enc k w b 0 n d os) b = some (.cells (setAll (flatK enc k d).toList arr 0) t) := by
  have hlt := lt_of_blk hb
  have hsz : (mapBlock (Sort.ahead w n) b (putCells id 0 (flatK enc k d))).heap.size = w.heap.size := by unfold mapBlock Sort.ahead; simp
  have hg : ∀ i, i < w.heap.size → blk (sortWorldK enc k w b 0 n d os) i = blk (mapBlock (Sort.ahead w n) b (putCells id 0 (flatK enc k d))) i := by
    intro i hi
    unfold sortWorldK putRowK putRow grow blk
    rw [Array.getElem?_append_left (by rw [hsz]; exact hi)]
  have ha : ∀ i, blk (Sort.ahead w n) i = blk w i := fun _ => rfl
  refine ⟨⟨rfl, rfl, rfl, ?_, fun i hi hne => ?_⟩, ?_⟩
  · unfold sortWorldK putRowK putRow grow
    rw [Array.size_append, hsz]; omega
  · rw [hg i hi, mapBlock_blk, if_neg hne, ha]
  · rw [hg b hlt, mapBlock_blk, if_pos rfl, ha, hb]
    show some (Obj.cells (putCells id 0 (flatK enc k d) arr) t (0, 0)) = _
    rw [putCells_list _ _ _ (by omega)]
/-- A sorted row, told as a list. -/
theorem sort_meets {P : Program} {f : FuncId} {cl : Value} {lt : α → α → Bool} (hc : callable P f = true) (hk : ∀ x, (enc x).length = k) (hk0 : 0 < k) {w : World} {b n c : Nat} {L : List α} (hO : Own w (.slice (some ⟨b, 0, none⟩) n c) k (L.flatMap enc))
    (h : HoldsK enc k w b 0 L.toArray → b < w.heap.size → Calls P f #[.slice (some ⟨b, 0, none⟩) L.toArray.size c, cl] w fun e w' => e = .returned (.tuple #[]) ∧ ∃ d' m os, PermIn 0 L.toArray.size L.toArray d' ∧ SortedIn lt 0 L.toArray.size d' ∧ w' = sortWorldK enc k w b 0 m d' os) :
    Meets P f #[.slice (some ⟨b, 0, none⟩) n c, cl] w fun _ w' => ∃ L' : List α, L'.Perm L ∧ L'.Pairwise (fun x y => lt y x = false) ∧ Own w' (.slice (some ⟨b, 0, none⟩) n c) k (L'.flatMap enc) ∧ Mod (fun i => i = b) w w' := by
  have hO' := hO
  obtain ⟨a, n', c', e, h1, h2, h3, h4⟩ := hO'
  cases e
  have hn : n = L.length := by
    rw [flat_len enc k hk] at h1
    exact (Nat.eq_of_mul_eq_mul_right hk0 h1).symm
  subst hn
  rcases h4 with ⟨h4, _⟩ | ⟨b', arr, t, e, hb, hs, h5⟩
  · cases h4
  · cases e
    have hle : L.length * k ≤ arr.size := by rw [hs]; exact Nat.mul_le_mul_right _ h2
    have hH : HoldsK enc k w b 0 L.toArray := by
      intro j hj
      rw [size_flatK] at hj
      have hj : j < L.length * k := by simpa using hj
      have hfs : j < (flatK enc k L.toArray).size := by simpa using hj
      refine ⟨?_, by simp [World.frozen?, show w.heap[b]? = _ from hb]⟩
      have e1 := congrArg (fun l : List Value => l[j]?) h5
      rw [← flatK_list hk L] at e1
      simp only [List.getElem?_take_of_lt hj] at e1
      rw [cell_mk, hb, cellO_some, Nat.zero_add, getElem!_pos _ j hfs]
      rw [Array.getElem?_toList, Array.getElem?_toList, Array.getElem?_eq_getElem hfs] at e1
      exact e1
    refine ⟨hc, ((h hH (lt_of_blk hb)).mono ?_)⟩
    rintro e w' ⟨rfl, d', m, os, hp, hsd, rfl⟩
    obtain ⟨p1, p2, p3⟩ := hp
    have hsz : d'.size = L.length := by simpa using p1
    have hx : d'.extract 0 L.toArray.size = d' := by
      rw [List.size_toArray, ← hsz]; exact Array.extract_size
    have hx2 : L.toArray.extract 0 L.toArray.size = L.toArray := Array.extract_size
    rw [hx, hx2] at p3
    obtain ⟨q1, q2⟩ := sortW_mod (enc := enc) (k := k) (n := m) hb d' os (by rw [size_flatK, hsz]; exact hle)
    refine ⟨_, rfl, d'.toList, by simpa using p3, ?_, ?_, q1⟩
    · rw [List.pairwise_iff_getElem]
      intro i j hi hj hlt
      have hi' : i < d'.size := by simpa using hi
      have hj' : j < d'.size := by simpa using hj
      have := hsd i j (by omega) hlt (by simp; omega)
      rw [getElem!_pos d' i hi', getElem!_pos d' j hj'] at this
      simpa using this
    · have hd : d' = d'.toList.toArray := rfl
      have hf := flatK_list hk d'.toList
      rw [← hd] at hf
      rw [hf] at q2
      have := hO.put (us := d'.toList.flatMap enc) (j := 0) hb q2 (by rw [flat_len enc k hk, flat_len enc k hk]; simp [hsz])
      rw [List.take_zero, List.nil_append, Nat.zero_add, List.drop_of_length_le (by rw [flat_len enc k hk, flat_len enc k hk]; simp [hsz]), List.append_nil] at this
      exact this
end
end Go.Ev
end
section
set_option linter.unusedSimpArgs false
set_option linter.unusedVariables false
namespace Go.Proofs.YtlkpadfkmdgjcaaGreatDoor
open Go Go.Ev Go.Sort
set_option linter.unusedVariables false
set_option linter.unusedSimpArgs false
set_option maxRecDepth 100000
attribute [local irreducible] kO kB kStr kInt kN kG kIf kfld kld kldN kst knew kmap kbld kbldS kext kcnv klenStr klen kcap kprt kprtN kbool kint kstr keq kun ksl kix kiv kta kmk kmm ksem ksemU kextf kcallV kcallM kcall kL

/-! ### Sorting, by the library's contract -/
def cmpI (x y : Int) : Int := if x < y then -1 else if y < x then 1 else 0
theorem isNaN_spec (x : Int) (w : World) : Meets Tryz.prog 177 #[.int .i64 x] w fun v w' => v = .bool false ∧ w' = w := by
  refine f177_ok ?_
  unfold f177
  refine neq_at ?_
  exact ⟨by simp, rfl⟩
theorem cmp_spec (x y : Int) (w : World) : Meets Tryz.prog 144 #[.int .i64 x, .int .i64 y] w fun v w' => v = .int .i64 (cmpI x y) ∧ w' = w := by
  refine f144_ok ?_
  unfold f144
  refine kcall_of (isNaN_spec x w) ?_
  rintro v w2 ⟨rfl, rfl⟩
  refine kcall_of (isNaN_spec y w2) ?_
  rintro v w4 ⟨rfl, rfl⟩
  repeat (first | refine kN_at ?_ | refine kB_at ?_ | refine kfld_of ?_ | refine kext_at rfl ?_ | refine kG_of (by first | exact rfl | omega) ?_ | refine klen_at ?_ | refine eql_at ?_ | refine neq_at ?_ | refine lss_at ?_ | refine leq_at ?_ | refine gtr_at ?_ | refine geq_at ?_ | refine add_at (by omega) (by omega) ?_ | refine sub_at (by omega) (by omega) ?_ | refine not_at ?_ | refine kO_at ?_ | refine kprt_at rfl ?_ | refine kprtN_at rfl ?_ | refine kcap_at ?_ | refine klenStr_at ?_ | refine kN_iat ?_ | refine kN_fat ?_ | refine kIf_T (by first | exact rfl | exact decT (by omega) | exact notT (decF (by omega))) ?_ | refine kIf_F (by first | exact rfl | exact decF (by omega) | exact notF (decT (by omega))) ?_)
  unfold cmpI
  refine kIf_dec (fun h => ?_) (fun h => ?_)
  · rw [if_pos h]; exact ⟨rfl, rfl⟩
  · rw [if_neg h]
    unfold f144_3
    repeat (first | refine kN_at ?_ | refine kB_at ?_ | refine kfld_of ?_ | refine kext_at rfl ?_ | refine kG_of (by first | exact rfl | omega) ?_ | refine klen_at ?_ | refine eql_at ?_ | refine neq_at ?_ | refine lss_at ?_ | refine leq_at ?_ | refine gtr_at ?_ | refine geq_at ?_ | refine add_at (by omega) (by omega) ?_ | refine sub_at (by omega) (by omega) ?_ | refine not_at ?_ | refine kO_at ?_ | refine kprt_at rfl ?_ | refine kprtN_at rfl ?_ | refine kcap_at ?_ | refine klenStr_at ?_ | refine kN_iat ?_ | refine kN_fat ?_ | refine kIf_T (by first | exact rfl | exact decT (by omega) | exact notT (decF (by omega))) ?_ | refine kIf_F (by first | exact rfl | exact decF (by omega) | exact notF (decT (by omega))) ?_)
    refine kIf_dec (fun h => ?_) (fun h => ?_)
    · rw [if_pos h]; exact ⟨rfl, rfl⟩
    · rw [if_neg h]; exact ⟨rfl, rfl⟩
theorem ltI (x y : Int) : decide (cmpI x y < 0) = decide (x < y) := by
  unfold cmpI
  by_cases h1 : x < y
  · simp [h1]
  · by_cases h2 : y < x <;> simp [h1, h2]
theorem len64_0 (w : World) : Meets Tryz.prog 194 #[.int .u64 0] w fun v w' => v = .int .i64 0 ∧ w' = w := by
  refine f194_ok ?_
  unfold f194
  repeat (first | refine kN_at ?_ | refine kB_at ?_ | refine kfld_of ?_ | refine kext_at rfl ?_ | refine kG_of (by first | exact rfl | omega) ?_ | refine klen_at ?_ | refine eql_at ?_ | refine neq_at ?_ | refine lss_at ?_ | refine leq_at ?_ | refine gtr_at ?_ | refine geq_at ?_ | refine add_at (by omega) (by omega) ?_ | refine sub_at (by omega) (by omega) ?_ | refine not_at ?_ | refine kO_at ?_ | refine kprt_at rfl ?_ | refine kprtN_at rfl ?_ | refine kcap_at ?_ | refine klenStr_at ?_ | refine kN_iat ?_ | refine kN_fat ?_ | refine kIf_T (by first | exact rfl | exact decT (by omega) | exact notT (decF (by omega))) ?_ | refine kIf_F (by first | exact rfl | exact decF (by omega) | exact notF (decT (by omega))) ?_)
  unfold f194_2
  rw [kcnv_int, show IntKind.u8.wrap 0 = 0 by decide, kiv_string]
  refine kG_of (by decide) ?_
  refine kO_of (a := 0) rfl ?_
  rw [kcnv_int, show IntKind.i64.wrap ((UInt8.toNat 0 : Nat) : Int) = 0 by decide]
  repeat (first | refine kN_at ?_ | refine kB_at ?_ | refine kfld_of ?_ | refine kext_at rfl ?_ | refine kG_of (by first | exact rfl | omega) ?_ | refine klen_at ?_ | refine eql_at ?_ | refine neq_at ?_ | refine lss_at ?_ | refine leq_at ?_ | refine gtr_at ?_ | refine geq_at ?_ | refine add_at (by omega) (by omega) ?_ | refine sub_at (by omega) (by omega) ?_ | refine not_at ?_ | refine kO_at ?_ | refine kprt_at rfl ?_ | refine kprtN_at rfl ?_ | refine kcap_at ?_ | refine klenStr_at ?_ | refine kN_iat ?_ | refine kN_fat ?_ | refine kIf_T (by first | exact rfl | exact decT (by omega) | exact notT (decF (by omega))) ?_ | refine kIf_F (by first | exact rfl | exact decF (by omega) | exact notF (decT (by omega))) ?_)
  exact ⟨rfl, rfl⟩
theorem len_0 (w : World) : Meets Tryz.prog 164 #[.int .u64 0] w fun v w' => v = .int .i64 0 ∧ w' = w := by
  refine f164_ok ?_
  unfold f164
  repeat (first | refine kN_at ?_ | refine kB_at ?_ | refine kfld_of ?_ | refine kext_at rfl ?_ | refine kG_of (by first | exact rfl | omega) ?_ | refine klen_at ?_ | refine eql_at ?_ | refine neq_at ?_ | refine lss_at ?_ | refine leq_at ?_ | refine gtr_at ?_ | refine geq_at ?_ | refine add_at (by omega) (by omega) ?_ | refine sub_at (by omega) (by omega) ?_ | refine not_at ?_ | refine kO_at ?_ | refine kprt_at rfl ?_ | refine kprtN_at rfl ?_ | refine kcap_at ?_ | refine klenStr_at ?_ | refine kN_iat ?_ | refine kN_fat ?_ | refine kIf_T (by first | exact rfl | exact decT (by omega) | exact notT (decF (by omega))) ?_ | refine kIf_F (by first | exact rfl | exact decF (by omega) | exact notF (decT (by omega))) ?_)
  unfold f164_0
  refine kcall_of (len64_0 w) ?_
  intro v w' h
  exact h
instance : Inhabited Part := ⟨⟨0, 0, 0, 0, 0, 0⟩⟩
def entC (x : Int × Int) : List Value := [nV x.1, nV x.2]
theorem grow_two (w : World) (a b : Obj) : (w.alloc a).alloc b = grow w #[a, b] := by
  rw [alloc_eq_grow, alloc_eq_grow, grow_grow]; rfl
/-! ### parts -/
theorem cloP_spec (x y : Part) (w : World) : Meets Tryz.prog 149 #[.agg (Part.cells x).toArray, .agg (Part.cells y).toArray] w fun v w' => v = .int .i64 (cmpI (Part.comp x) (Part.comp y)) ∧ w' = grow w #[.cells (Part.cells x).toArray 49, .cells (Part.cells y).toArray 49] := by
  refine f149_ok ?_
  unfold f149
  rw [knew_eq, knew_eq]
  rw [← grow_two]
  have h1 : blk ((w.alloc (.cells (Value.agg (Part.cells x).toArray).cells 49)).alloc (.cells (Value.agg (Part.cells y).toArray).cells 49)) w.heap.size = some (.cells (Part.cells x).toArray 49) := by
    rw [alloc_heap_old (by simp), alloc_heap_new]; rfl
  have h2 : blk ((w.alloc (.cells (Value.agg (Part.cells x).toArray).cells 49)).alloc (.cells (Value.agg (Part.cells y).toArray).cells 49)) (w.alloc (.cells (Value.agg (Part.cells x).toArray).cells 49)).heap.size = some (.cells (Part.cells y).toArray 49) := by
    rw [alloc_heap_new]; rfl
  refine kfld_of ?_
  refine kld_of (v := .int .i64 (Part.comp x)) h1 rfl ?_
  refine kfld_of ?_
  refine kld_of (v := .int .i64 (Part.comp y)) h2 rfl ?_
  refine kcall_of (cmp_spec _ _ _) ?_
  rintro v w' ⟨rfl, rfl⟩
  exact ⟨rfl, rfl⟩
def ltP (x y : Part) : Bool := ltOf (fun x y : Part => cmpI (Part.comp x) (Part.comp y)) x y
theorem ltP_eq (x y : Part) : ltP x y = decide (Part.comp x < Part.comp y) := by
  show decide (cmpI (Part.comp x) (Part.comp y) < 0) = _
  exact ltI _ _
theorem swoP : SWO (ltOf fun x y : Part => cmpI (Part.comp x) (Part.comp y)) where
  irrefl x := by
    show ltP x x = false
    rw [ltP_eq]; simp
  trans x y z h1 h2 := by
    change ltP x y = true at h1
    change ltP y z = true at h2
    show ltP x z = true
    rw [ltP_eq] at *; simp at *; omega
  ntrans x y z h1 h2 := by
    change ltP x y = false at h1
    change ltP y z = false at h2
    show ltP x z = false
    rw [ltP_eq] at *; simp at *; omega
theorem insP_nil (w : World) (cl : Value) : Meets Tryz.prog 213 #[.slice none 0 0, .int .i64 0, .int .i64 0, cl] w fun v w' => v = .tuple #[] ∧ w' = w := by
  refine f213_ok ?_
  unfold f213
  repeat (first | refine kN_at ?_ | refine kB_at ?_ | refine kfld_of ?_ | refine kext_at rfl ?_ | refine kG_of (by first | exact rfl | omega) ?_ | refine klen_at ?_ | refine eql_at ?_ | refine neq_at ?_ | refine lss_at ?_ | refine leq_at ?_ | refine gtr_at ?_ | refine geq_at ?_ | refine add_at (by omega) (by omega) ?_ | refine sub_at (by omega) (by omega) ?_ | refine not_at ?_ | refine kO_at ?_ | refine kprt_at rfl ?_ | refine kprtN_at rfl ?_ | refine kcap_at ?_ | refine klenStr_at ?_ | refine kN_iat ?_ | refine kN_fat ?_ | refine kIf_T (by first | exact rfl | exact decT (by omega) | exact notT (decF (by omega))) ?_ | refine kIf_F (by first | exact rfl | exact decF (by omega) | exact notF (decT (by omega))) ?_)
  refine kL1_of 0 (fun i x wr => x = .int .i64 1 ∧ wr = w) ⟨lI1_0 ⟨rfl, rfl⟩, fun x wr hx => ?_⟩
  obtain ⟨i, hi, ⟨rfl, rfl⟩, hJ⟩ := lI1_step hx
  unfold f213_0
  repeat (first | refine kN_at ?_ | refine kB_at ?_ | refine kfld_of ?_ | refine kext_at rfl ?_ | refine kG_of (by first | exact rfl | omega) ?_ | refine klen_at ?_ | refine eql_at ?_ | refine neq_at ?_ | refine lss_at ?_ | refine leq_at ?_ | refine gtr_at ?_ | refine geq_at ?_ | refine add_at (by omega) (by omega) ?_ | refine sub_at (by omega) (by omega) ?_ | refine not_at ?_ | refine kO_at ?_ | refine kprt_at rfl ?_ | refine kprtN_at rfl ?_ | refine kcap_at ?_ | refine klenStr_at ?_ | refine kN_iat ?_ | refine kN_fat ?_ | refine kIf_T (by first | exact rfl | exact decT (by omega) | exact notT (decF (by omega))) ?_ | refine kIf_F (by first | exact rfl | exact decF (by omega) | exact notF (decT (by omega))) ?_)
  exact ⟨rfl, rfl⟩
def pdqInvP (w : World) (x1 x2 x3 x10 x11 : Value) (wr : World) : Prop := x1 = .int .i64 0 ∧ x2 = .int .i64 0 ∧ wr = w
theorem pdqP_nil (w : World) (cl : Value) (l : Value) : Meets Tryz.prog 178 #[.slice none 0 0, .int .i64 0, .int .i64 0, l, cl] w fun v w' => v = .tuple #[] ∧ w' = w := by
  refine f178_ok ?_
  unfold f178
  refine kL_of (pdqInvP w) (fun _ _ _ _ _ _ => 0) ⟨⟨rfl, rfl, rfl⟩, ?_⟩
  rintro x1 x2 x3 x10 x11 wr ⟨rfl, rfl, rfl⟩
  unfold f178_0
  repeat (first | refine kN_at ?_ | refine kB_at ?_ | refine kfld_of ?_ | refine kext_at rfl ?_ | refine kG_of (by first | exact rfl | omega) ?_ | refine klen_at ?_ | refine eql_at ?_ | refine neq_at ?_ | refine lss_at ?_ | refine leq_at ?_ | refine gtr_at ?_ | refine geq_at ?_ | refine add_at (by omega) (by omega) ?_ | refine sub_at (by omega) (by omega) ?_ | refine not_at ?_ | refine kO_at ?_ | refine kprt_at rfl ?_ | refine kprtN_at rfl ?_ | refine kcap_at ?_ | refine klenStr_at ?_ | refine kN_iat ?_ | refine kN_fat ?_ | refine kIf_T (by first | exact rfl | exact decT (by omega) | exact notT (decF (by omega))) ?_ | refine kIf_F (by first | exact rfl | exact decF (by omega) | exact notF (decT (by omega))) ?_)
  refine kcall_of (insP_nil wr cl) ?_
  rintro v w' ⟨rfl, rfl⟩
  exact ⟨rfl, rfl⟩
theorem sortP_nil (w : World) (cl : Value) : Meets Tryz.prog 148 #[.slice none 0 0, cl] w fun v w' => v = .tuple #[] ∧ w' = w := by
  refine f148_ok ?_
  unfold f148
  refine klen_at ?_
  rw [kcnv_int, show IntKind.u64.wrap ((0 : Nat) : Int) = 0 by decide]
  refine kcall_of (len_0 w) ?_
  rintro v w5 ⟨rfl, rfl⟩
  refine kcall_of (pdqP_nil w5 cl _) ?_
  rintro v w7 ⟨rfl, rfl⟩
  exact ⟨rfl, rfl⟩
theorem sortP_spec {w : World} {v : Value} {L : List Part} (hO : Own w v 6 (L.flatMap Part.cells)) (hl : L.length < 4611686018427387904) :
    Meets Tryz.prog 148 #[v, .func (.func 149) #[] #[]] w fun _ w' => ∃ L' : List Part, L'.Perm L ∧ L'.Pairwise (fun x y => Part.comp x ≤ Part.comp y) ∧ Own w' v 6 (L'.flatMap Part.cells) ∧ Mod (vblk v) w w' := by
  have hO' := hO
  obtain ⟨a, n, c, rfl, h1, h2, h3, h4⟩ := hO'
  rcases h4 with ⟨rfl, hc0⟩ | ⟨b, arr, t, rfl, hb, hs, h5⟩
  · obtain rfl : c = 0 := hc0
    obtain rfl : n = 0 := by omega
    have hL : L = [] := by
      rw [flat_len Part.cells 6 (fun _ => rfl)] at h1
      exact List.eq_nil_of_length_eq_zero (by omega)
    subst hL
    refine (sortP_nil w _).mono ?_
    rintro v w' ⟨rfl, rfl⟩
    exact ⟨[], List.Perm.refl _, List.Pairwise.nil, Own.nil _ _, Mod.refl _ _⟩
  · have eg : ∀ args w, (callFunc 149 args).run Tryz.prog w = .ok (.enter 149 args) w := Go.Proofs.enters_of Tryz.func149 (by kernel_rfl) rfl
    refine (sort_meets (enc := Part.cells) (k := 6) (lt := ltOf fun x y : Part => cmpI (Part.comp x) (Part.comp y)) (by kernel_rfl) (fun _ => rfl) (by omega) hO (fun hH hlt => ?_)).mono ?_
    · have hcmp : CmpLays Tryz.prog 149 #[] Part.cells 6 (fun x y : Part => cmpI (Part.comp x) (Part.comp y)) b 0 L.toArray.size w := by
        intro m os dk hdk x y
        refine ((cloP_spec x y _).2).mono ?_
        rintro e w' ⟨v, rfl, rfl, rfl⟩
        exact ⟨rfl, 0, _, rfl⟩
      have := AnyQ.slices_SortFunc sortPart 6 Tryz.isAgg49 Tryz.sizeOf49 Part.cells (fun _ => rfl) (fun x v hv => by
        simp [Part.cells] at hv
        rcases hv with rfl | rfl | rfl | rfl | rfl | rfl <;> rfl) (fun x y : Part => cmpI (Part.comp x) (Part.comp y)) swoP 149 #[] b 0 c L.toArray w eg hcmp hH hlt (by simpa using hl)
      exact this
    · rintro v w' ⟨L', g1, g2, g3, g4⟩
      refine ⟨L', g1, g2.imp (fun {x y} hxy => ?_), g3, g4.mono fun k _ e => by subst e; exact ⟨_, _, _, rfl⟩⟩
      change ltP y x = false at hxy
      rw [ltP_eq] at hxy
      simp at hxy
      omega
/-! ### entities -/
theorem cloE_spec (x y : (Int × Int)) (w : World) : Meets Tryz.prog 143 #[.agg (entC x).toArray, .agg (entC y).toArray] w fun v w' => v = .int .i64 (cmpI (Prod.fst x) (Prod.fst y)) ∧ w' = grow w #[.cells (entC x).toArray 37, .cells (entC y).toArray 37] := by
  refine f143_ok ?_
  unfold f143
  rw [knew_eq, knew_eq]
  rw [← grow_two]
  have h1 : blk ((w.alloc (.cells (Value.agg (entC x).toArray).cells 37)).alloc (.cells (Value.agg (entC y).toArray).cells 37)) w.heap.size = some (.cells (entC x).toArray 37) := by
    rw [alloc_heap_old (by simp), alloc_heap_new]; rfl
  have h2 : blk ((w.alloc (.cells (Value.agg (entC x).toArray).cells 37)).alloc (.cells (Value.agg (entC y).toArray).cells 37)) (w.alloc (.cells (Value.agg (entC x).toArray).cells 37)).heap.size = some (.cells (entC y).toArray 37) := by
    rw [alloc_heap_new]; rfl
  refine kfld_of ?_
  refine kld_of (v := .int .i64 (Prod.fst x)) h1 rfl ?_
  refine kfld_of ?_
  refine kld_of (v := .int .i64 (Prod.fst y)) h2 rfl ?_
  refine kcall_of (cmp_spec _ _ _) ?_
  rintro v w' ⟨rfl, rfl⟩
  exact ⟨rfl, rfl⟩
def ltE (x y : (Int × Int)) : Bool := ltOf (fun x y : (Int × Int) => cmpI (Prod.fst x) (Prod.fst y)) x y
theorem ltE_eq (x y : (Int × Int)) : ltE x y = decide (Prod.fst x < Prod.fst y) := by
  show decide (cmpI (Prod.fst x) (Prod.fst y) < 0) = _
  exact ltI _ _
theorem swoE : SWO (ltOf fun x y : (Int × Int) => cmpI (Prod.fst x) (Prod.fst y)) where
  irrefl x := by
    show ltE x x = false
    rw [ltE_eq]; simp
  trans x y z h1 h2 := by
    change ltE x y = true at h1
    change ltE y z = true at h2
    show ltE x z = true
    rw [ltE_eq] at *; simp at *; omega
  ntrans x y z h1 h2 := by
    change ltE x y = false at h1
    change ltE y z = false at h2
    show ltE x z = false
    rw [ltE_eq] at *; simp at *; omega
theorem insE_nil (w : World) (cl : Value) : Meets Tryz.prog 205 #[.slice none 0 0, .int .i64 0, .int .i64 0, cl] w fun v w' => v = .tuple #[] ∧ w' = w := by
  refine f205_ok ?_
  unfold f205
  repeat (first | refine kN_at ?_ | refine kB_at ?_ | refine kfld_of ?_ | refine kext_at rfl ?_ | refine kG_of (by first | exact rfl | omega) ?_ | refine klen_at ?_ | refine eql_at ?_ | refine neq_at ?_ | refine lss_at ?_ | refine leq_at ?_ | refine gtr_at ?_ | refine geq_at ?_ | refine add_at (by omega) (by omega) ?_ | refine sub_at (by omega) (by omega) ?_ | refine not_at ?_ | refine kO_at ?_ | refine kprt_at rfl ?_ | refine kprtN_at rfl ?_ | refine kcap_at ?_ | refine klenStr_at ?_ | refine kN_iat ?_ | refine kN_fat ?_ | refine kIf_T (by first | exact rfl | exact decT (by omega) | exact notT (decF (by omega))) ?_ | refine kIf_F (by first | exact rfl | exact decF (by omega) | exact notF (decT (by omega))) ?_)
  refine kL1_of 0 (fun i x wr => x = .int .i64 1 ∧ wr = w) ⟨lI1_0 ⟨rfl, rfl⟩, fun x wr hx => ?_⟩
  obtain ⟨i, hi, ⟨rfl, rfl⟩, hJ⟩ := lI1_step hx
  unfold f205_0
  repeat (first | refine kN_at ?_ | refine kB_at ?_ | refine kfld_of ?_ | refine kext_at rfl ?_ | refine kG_of (by first | exact rfl | omega) ?_ | refine klen_at ?_ | refine eql_at ?_ | refine neq_at ?_ | refine lss_at ?_ | refine leq_at ?_ | refine gtr_at ?_ | refine geq_at ?_ | refine add_at (by omega) (by omega) ?_ | refine sub_at (by omega) (by omega) ?_ | refine not_at ?_ | refine kO_at ?_ | refine kprt_at rfl ?_ | refine kprtN_at rfl ?_ | refine kcap_at ?_ | refine klenStr_at ?_ | refine kN_iat ?_ | refine kN_fat ?_ | refine kIf_T (by first | exact rfl | exact decT (by omega) | exact notT (decF (by omega))) ?_ | refine kIf_F (by first | exact rfl | exact decF (by omega) | exact notF (decT (by omega))) ?_)
  exact ⟨rfl, rfl⟩
def pdqInvE (w : World) (x1 x2 x3 x10 x11 : Value) (wr : World) : Prop := x1 = .int .i64 0 ∧ x2 = .int .i64 0 ∧ wr = w
theorem pdqE_nil (w : World) (cl : Value) (l : Value) : Meets Tryz.prog 176 #[.slice none 0 0, .int .i64 0, .int .i64 0, l, cl] w fun v w' => v = .tuple #[] ∧ w' = w := by
  refine f176_ok ?_
  unfold f176
  refine kL_of (pdqInvE w) (fun _ _ _ _ _ _ => 0) ⟨⟨rfl, rfl, rfl⟩, ?_⟩
  rintro x1 x2 x3 x10 x11 wr ⟨rfl, rfl, rfl⟩
  unfold f176_0
  repeat (first | refine kN_at ?_ | refine kB_at ?_ | refine kfld_of ?_ | refine kext_at rfl ?_ | refine kG_of (by first | exact rfl | omega) ?_ | refine klen_at ?_ | refine eql_at ?_ | refine neq_at ?_ | refine lss_at ?_ | refine leq_at ?_ | refine gtr_at ?_ | refine geq_at ?_ | refine add_at (by omega) (by omega) ?_ | refine sub_at (by omega) (by omega) ?_ | refine not_at ?_ | refine kO_at ?_ | refine kprt_at rfl ?_ | refine kprtN_at rfl ?_ | refine kcap_at ?_ | refine klenStr_at ?_ | refine kN_iat ?_ | refine kN_fat ?_ | refine kIf_T (by first | exact rfl | exact decT (by omega) | exact notT (decF (by omega))) ?_ | refine kIf_F (by first | exact rfl | exact decF (by omega) | exact notF (decT (by omega))) ?_)
  refine kcall_of (insE_nil wr cl) ?_
  rintro v w' ⟨rfl, rfl⟩
  exact ⟨rfl, rfl⟩
theorem sortE_nil (w : World) (cl : Value) : Meets Tryz.prog 142 #[.slice none 0 0, cl] w fun v w' => v = .tuple #[] ∧ w' = w := by
  refine f142_ok ?_
  unfold f142
  refine klen_at ?_
  rw [kcnv_int, show IntKind.u64.wrap ((0 : Nat) : Int) = 0 by decide]
  refine kcall_of (len_0 w) ?_
  rintro v w5 ⟨rfl, rfl⟩
  refine kcall_of (pdqE_nil w5 cl _) ?_
  rintro v w7 ⟨rfl, rfl⟩
  exact ⟨rfl, rfl⟩
theorem sortE_spec {w : World} {v : Value} {L : List (Int × Int)} (hO : Own w v 2 (L.flatMap entC)) (hl : L.length < 4611686018427387904) :
    Meets Tryz.prog 142 #[v, .func (.func 143) #[] #[]] w fun _ w' => ∃ L' : List (Int × Int), L'.Perm L ∧ L'.Pairwise (fun x y => Prod.fst x ≤ Prod.fst y) ∧ Own w' v 2 (L'.flatMap entC) ∧ Mod (vblk v) w w' := by
  have hO' := hO
  obtain ⟨a, n, c, rfl, h1, h2, h3, h4⟩ := hO'
  rcases h4 with ⟨rfl, hc0⟩ | ⟨b, arr, t, rfl, hb, hs, h5⟩
  · obtain rfl : c = 0 := hc0
    obtain rfl : n = 0 := by omega
    have hL : L = [] := by
      rw [flat_len entC 2 (fun _ => rfl)] at h1
      exact List.eq_nil_of_length_eq_zero (by omega)
    subst hL
    refine (sortE_nil w _).mono ?_
    rintro v w' ⟨rfl, rfl⟩
    exact ⟨[], List.Perm.refl _, List.Pairwise.nil, Own.nil _ _, Mod.refl _ _⟩
  · have eg : ∀ args w, (callFunc 143 args).run Tryz.prog w = .ok (.enter 143 args) w := Go.Proofs.enters_of Tryz.func143 (by kernel_rfl) rfl
    refine (sort_meets (enc := entC) (k := 2) (lt := ltOf fun x y : (Int × Int) => cmpI (Prod.fst x) (Prod.fst y)) (by kernel_rfl) (fun _ => rfl) (by omega) hO (fun hH hlt => ?_)).mono ?_
    · have hcmp : CmpLays Tryz.prog 143 #[] entC 2 (fun x y : (Int × Int) => cmpI (Prod.fst x) (Prod.fst y)) b 0 L.toArray.size w := by
        intro m os dk hdk x y
        refine ((cloE_spec x y _).2).mono ?_
        rintro e w' ⟨v, rfl, rfl, rfl⟩
        exact ⟨rfl, 0, _, rfl⟩
      have := AnyQ.slices_SortFunc sortEnt 2 Tryz.isAgg37 Tryz.sizeOf37 entC (fun _ => rfl) (fun x v hv => by
        simp [entC, nV] at hv
        rcases hv with rfl | rfl <;> rfl) (fun x y : (Int × Int) => cmpI (Prod.fst x) (Prod.fst y)) swoE 143 #[] b 0 c L.toArray w eg hcmp hH hlt (by simpa using hl)
      exact this
    · rintro v w' ⟨L', g1, g2, g3, g4⟩
      refine ⟨L', g1, g2.imp (fun {x y} hxy => ?_), g3, g4.mono fun k _ e => by subst e; exact ⟨_, _, _, rfl⟩⟩
      change ltE y x = false at hxy
      rw [ltE_eq] at hxy
      simp at hxy
      omega
theorem sorted_spec {w : World} {v : Value} {L : List Part} (hO : Own w v 6 (L.flatMap Part.cells)) (hl : L.length < 4611686018427387904) :
    Meets Tryz.prog 90 #[v] w fun _ w' => ∃ L' : List Part, L'.Perm L ∧ L'.Pairwise (fun x y => x.comp ≤ y.comp) ∧ Own w' v 6 (L'.flatMap Part.cells) ∧ Mod (vblk v) w w' := by
  refine f90_ok ?_
  unfold f90
  refine kcall_of (sortP_spec hO hl) ?_
  intro v w' h
  exact h
theorem listed_spec {w : World} {v : Value} {L : List (Int × Int)} (hO : Own w v 2 (L.flatMap entC)) (hl : L.length < 4611686018427387904) :
    Meets Tryz.prog 79 #[v] w fun r w' => r = v ∧ ∃ L' : List (Int × Int), L'.Perm L ∧ L'.Pairwise (fun x y => x.1 ≤ y.1) ∧ Own w' v 2 (L'.flatMap entC) ∧ Mod (vblk v) w w' := by
  refine f79_ok ?_
  unfold f79
  refine kcall_of (sortE_spec hO hl) ?_
  intro r w' h
  exact ⟨rfl, h⟩
end Go.Proofs.YtlkpadfkmdgjcaaGreatDoor
end
section
set_option linter.unusedSimpArgs false
set_option linter.unusedVariables false
namespace Go.Proofs.YtlkpadfkmdgjcaaGreatDoor
open Go Go.Ev
set_option linter.unusedVariables false
set_option linter.unusedSimpArgs false
set_option maxRecDepth 100000
attribute [local irreducible] kO kB kStr kInt kN kG kIf kfld kld kldN kst knew kmap kbld kbldS kext kcnv klenStr klen kcap kprt kprtN kbool kint kstr keq kun ksl kix kiv kta kmk kmm ksem ksemU kextf kcallV kcallM kcall kL

/-! ### The store, as it lies -/
theorem ptSto : isPtrT Tryz.prog 26 = true := by kernel_rfl
theorem zCol : zeroO Tryz.prog 157 = some (.pointer none) := by kernel_rfl
structure TabM where
  rows : List (Int × Int)
  col : Nat → List Part
def TabM.empty : TabM := ⟨[], fun _ => []⟩
structure SM where
  gens : List (Int × Bool)
  free : List Nat
  cs : List Comp
  masks : List Nat
  tabs : List TabM
  spots : List (Nat × Nat)
def GoodC (cs : List Comp) : Prop := cs.length ≤ 16 ∧ ∀ c ∈ cs, 1 ≤ c.width ∧ c.width ≤ 4
def wdF (cs : List Comp) (c : Nat) : Nat := match cs[c]? with
  | some x => x.width.toNat
  | none => 1
def compsM (masks : List Nat) (i : Nat) : List Nat := match masks[i]? with
  | some m => listF m
  | none => []
def spotC (x : Nat × Nat) : List Value := [natV x.1, natV x.2]
def tabTag (i : Nat) (t : Tag) : Prop := t = .table i ∨ t = .trows i ∨ t = .tmap i ∨ ∃ c, colTag i c t
def TabAt (o : Lab) (w : World) (b i : Nat) (comps : List Nat) (wd : Nat → Nat) (pc : Nat → Nat) (T : TabM) : Prop :=
  o b = some (.table i) ∧ ∃ rv bm, blk w b = some (.cells #[rv, .map (some bm)] 149) ∧ Own w rv 2 (T.rows.flatMap entC) ∧ (∀ k, vblk rv k → o k = some (.trows i)) ∧ o bm = some (.tmap i) ∧
    MapIs w bm .i64 (comps.map fun (c : Nat) => ((c : Int), ptrV (pc c))) ∧ ∀ c ∈ comps, ColAt o w (pc c) i c (wd c) (T.col c)
theorem TabAt.frame {o o' : Lab} {w w' : World} {b i : Nat} {comps : List Nat} {wd pc : Nat → Nat} {T : TabM} (h : TabAt o w b i comps wd pc T) {fp : Nat → Prop} (hm : Mod fp w w') (hf : ∀ k t, o k = some t → tabTag i t → ¬ fp k) (ho : LabEq w o o') : TabAt o' w' b i comps wd pc T := by
  obtain ⟨h1, rv, bm, hb, hr, hrl, hbm, hM, hC⟩ := h
  refine ⟨by rw [ho b (lt_of_blk hb)]; exact h1, rv, bm, hm.get hb (hf b _ h1 (.inl rfl)), hr.mod hm fun k hk => hf k _ (hrl k hk) (.inr (.inl rfl)), fun k hk => by rw [ho k (hr.vblk_lt hk)]; exact hrl k hk, by rw [ho bm (lt_of_blk hM)]; exact hbm, hM.mod hm (hf bm _ hbm (.inr (.inr (.inl rfl)))), fun c hc => (hC c hc).frame hm (fun k t e1 e2 => hf k t e1 (.inr (.inr (.inr ⟨c, e2⟩)))) ho⟩
theorem lk_comps (f : Nat → Value) (c : Nat) : ∀ comps : List Nat, lkI (c : Int) (comps.map fun (c : Nat) => ((c : Int), f c)) = if c ∈ comps then some (comps.idxOf c, f c) else none
  | [] => by simp [lkI]
  | x :: r => by
    simp only [List.map_cons, lkI]
    by_cases h : c = x
    · subst h; simp
    · rw [if_neg (by omega), lk_comps f c r]
      have hx : (x == c) = false := by simpa using fun e => h e.symm
      by_cases hr : c ∈ r
      · simp [hr, h, List.idxOf_cons, hx]
      · simp [hr, h]
structure Ptrs where
  bR : Nat
  bA : Nat
  ca : Option Addr
  cc : Nat
  rv : Value
  tv : Value
  sv : Value
  pt : Nat → Nat
  pc : Nat → Nat → Nat
structure StoreP (o : Lab) (w : World) (b : Nat) (p : Ptrs) (S : SM) : Prop where
  lab : o b = some .store
  good : GoodC S.cs
  tle : S.tabs.length ≤ S.masks.length
  mle : S.masks.length ≤ 90000
  sle : S.spots.length ≤ 64
  here : blk w b = some (.cells #[ptrV p.bR, .slice p.ca S.cs.length p.cc, p.rv, ptrV p.bA, p.tv, p.sv] 139)
  roll : RollAt o w p.bR S.gens S.free
  atlas : AtlasAt o w p.bA S.cs.length S.masks
  sch : SlIs w p.ca S.cs.length 7 (S.cs.flatMap Comp.cells)
  schl : ∀ k f, p.ca = some ⟨k, f, none⟩ → o k = some .sch ∧ k < w.heap.size
  tabs : Own w p.tv 1 ((List.range S.tabs.length).map fun i => ptrV (p.pt i))
  tabsl : ∀ k, vblk p.tv k → o k = some .tabs
  spots : Own w p.sv 2 (S.spots.flatMap spotC)
  spotsl : ∀ k, vblk p.sv k → o k = some .spots
  tab : ∀ i (hi : i < S.tabs.length), TabAt o w (p.pt i) i (compsM S.masks i) (wdF S.cs) (p.pc i) S.tabs[i]
theorem StoreP.frame {o o' : Lab} {w w' : World} {b : Nat} {p : Ptrs} {S : SM} (h : StoreP o w b p S) {fp : Nat → Prop} (hm : Mod fp w w') (hf : ∀ k t, o k = some t → ¬ fp k) (ho : LabEq w o o') : StoreP o' w' b p S where
  lab := by rw [ho b (lt_of_blk h.here)]; exact h.lab
  good := h.good
  tle := h.tle
  mle := h.mle
  sle := h.sle
  here := hm.get h.here (hf b _ h.lab)
  roll := h.roll.frame hm (fun k t e _ => hf k t e) ho
  atlas := h.atlas.frame hm (fun k t e _ => hf k t e) ho
  sch := h.sch.mod hm fun k f e => hf k _ (h.schl k f e).1
  schl k f e := ⟨by rw [ho k (h.schl k f e).2]; exact (h.schl k f e).1, Nat.lt_of_lt_of_le (h.schl k f e).2 hm.size⟩
  tabs := h.tabs.mod hm fun k e => hf k _ (h.tabsl k e)
  tabsl k e := by rw [ho k (h.tabs.vblk_lt e)]; exact h.tabsl k e
  spots := h.spots.mod hm fun k e => hf k _ (h.spotsl k e)
  spotsl k e := by rw [ho k (h.spots.vblk_lt e)]; exact h.spotsl k e
  tab i hi := (h.tab i hi).frame hm (fun k t e _ => hf k t e) ho
theorem StoreP.same {o : Lab} {w w' : World} {b : Nat} {p : Ptrs} {S : SM} (h : StoreP o w b p S) (hm : Same w w') : StoreP o w' b p S := h.frame hm (fun _ _ _ h => h) (LabEq.refl _ _)
theorem wdF_of {cs : List Comp} (h : GoodC cs) {c : Nat} (hc : c < cs.length) : (cs[c]).width = (wdF cs c : Int) ∧ 1 ≤ wdF cs c ∧ wdF cs c ≤ 4 := by
  have hw := h.2 _ (List.getElem_mem hc)
  unfold wdF
  rw [List.getElem?_eq_getElem hc]
  simp only
  omega
end Go.Proofs.YtlkpadfkmdgjcaaGreatDoor
end
section
set_option linter.unusedSimpArgs false
set_option linter.unusedVariables false
namespace Go.Proofs.YtlkpadfkmdgjcaaGreatDoor
open Go Go.Ev
set_option linter.unusedVariables false
set_option linter.unusedSimpArgs false
set_option maxRecDepth 100000
attribute [local irreducible] kO kB kStr kInt kN kG kIf kfld kld kldN kst knew kmap kbld kbldS kext kcnv klenStr klen kcap kprt kprtN kbool kint kstr keq kun ksl kix kiv kta kmk kmm ksem ksemU kextf kcallV kcallM kcall kL

theorem lk_none (f : Nat → Value) (c : Int) : ∀ comps : List Nat, (∀ x ∈ comps, (x : Int) ≠ c) → lkI c (comps.map fun (c : Nat) => ((c : Int), f c)) = none
  | [], _ => rfl
  | x :: r, h => by
    simp only [List.map_cons, lkI]
    rw [if_neg (fun e => h x (by simp) e.symm), lk_none f c r (fun y hy => h y (by simp [hy]))]
    rfl
end Go.Proofs.YtlkpadfkmdgjcaaGreatDoor
end
section
set_option linter.unusedSimpArgs false
set_option linter.unusedVariables false
namespace Go.Proofs.YtlkpadfkmdgjcaaGreatDoor
open Go Go.Ev
set_option linter.unusedVariables false
set_option linter.unusedSimpArgs false
set_option maxRecDepth 100000
attribute [local irreducible] kO kB kStr kInt kN kG kIf kfld kld kldN kst knew kmap kbld kbldS kext kcnv klenStr klen kcap kprt kprtN kbool kint kstr keq kun ksl kix kiv kta kmk kmm ksem ksemU kextf kcallV kcallM kcall kL

/-! ### One table turned -/
theorem tabTag_inj {i j : Nat} {t : Tag} (h1 : tabTag i t) (h2 : tabTag j t) : i = j := by
  rcases h1 with rfl | rfl | rfl | ⟨c, rfl | rfl | rfl⟩ <;> rcases h2 with h | h | h | ⟨d, h | h | h⟩ <;> cases h <;> rfl
theorem StoreP.setTab {o o' : Lab} {w w' : World} {b : Nat} {p : Ptrs} {S : SM} (h : StoreP o w b p S) {n : Nat} (hn : n < S.tabs.length) {T' : TabM} (hl : LabEq w o o') (hm : Mod (FP o (tabTag n)) w w')
    (hT : TabAt o' w' (p.pt n) n (compsM S.masks n) (wdF S.cs) (p.pc n) T') : StoreP o' w' b p { S with tabs := S.tabs.set n T' } where
  lab := by rw [hl b (lt_of_blk h.here)]; exact h.lab
  good := h.good
  tle := by simpa using h.tle
  mle := h.mle
  sle := h.sle
  here := hm.get h.here fun ⟨t, e1, e2⟩ => by
    rw [h.lab] at e1; cases e1
    rcases e2 with h | h | h | ⟨c, h | h | h⟩ <;> cases h
  roll := h.roll.frame hm (fun k t e et ⟨t', e1, e2⟩ => by
    rw [e] at e1; cases e1
    rcases et with rfl | rfl | rfl <;> (rcases e2 with h | h | h | ⟨c, h | h | h⟩ <;> cases h)) hl
  atlas := h.atlas.frame hm (fun k t e et ⟨t', e1, e2⟩ => by
    rw [e] at e1; cases e1
    rcases et with rfl | rfl | rfl | ⟨i, rfl⟩ <;> (rcases e2 with h | h | h | ⟨c, h | h | h⟩ <;> cases h)) hl
  sch := h.sch.mod hm fun k f e ⟨t', e1, e2⟩ => by
    rw [(h.schl k f e).1] at e1; cases e1
    rcases e2 with h | h | h | ⟨c, h | h | h⟩ <;> cases h
  schl k f e := ⟨by rw [hl k (h.schl k f e).2]; exact (h.schl k f e).1, Nat.lt_of_lt_of_le (h.schl k f e).2 hm.size⟩
  tabs := by
    have := h.tabs.mod hm fun k e ⟨t', e1, e2⟩ => by
      rw [h.tabsl k e] at e1; cases e1
      rcases e2 with h | h | h | ⟨c, h | h | h⟩ <;> cases h
    simpa using this
  tabsl k e := by rw [hl k (h.tabs.vblk_lt e)]; exact h.tabsl k e
  spots := h.spots.mod hm fun k e ⟨t', e1, e2⟩ => by
    rw [h.spotsl k e] at e1; cases e1
    rcases e2 with h | h | h | ⟨c, h | h | h⟩ <;> cases h
  spotsl k e := by rw [hl k (h.spots.vblk_lt e)]; exact h.spotsl k e
  tab i hi := by
    simp only [List.length_set] at hi
    simp only [List.getElem_set]
    by_cases hin : n = i
    · subst hin
      simp only [if_true]
      exact hT
    · simp only [hin, if_false]
      exact (h.tab i hi).frame hm (fun k t e et ⟨t', e1, e2⟩ => by
        rw [e] at e1; cases e1
        exact hin (tabTag_inj e2 et)) hl
theorem StoreP.setTS {o o' : Lab} {w w' : World} {b : Nat} {p : Ptrs} {S : SM} (h : StoreP o w b p S) {n : Nat} (hn : n < S.tabs.length) {T' : TabM} (hl : LabEq w o o') (hm : Mod (FP o fun t => tabTag n t ∨ t = .spots) w w') {sp' : List (Nat × Nat)} (hsp : Own w' p.sv 2 (sp'.flatMap spotC)) (hspl : sp'.length = S.spots.length)
    (hT : TabAt o' w' (p.pt n) n (compsM S.masks n) (wdF S.cs) (p.pc n) T') : StoreP o' w' b p { S with tabs := S.tabs.set n T', spots := sp' } where
  lab := by rw [hl b (lt_of_blk h.here)]; exact h.lab
  good := h.good
  tle := by simpa using h.tle
  mle := h.mle
  sle := by rw [hspl]; exact h.sle
  here := hm.get h.here fun ⟨t, e1, e2⟩ => by
    rw [h.lab] at e1; cases e1
    rcases e2 with (h | h | h | ⟨c, h | h | h⟩) | h <;> cases h
  roll := h.roll.frame hm (fun k t e et ⟨t', e1, e2⟩ => by
    rw [e] at e1; cases e1
    rcases et with rfl | rfl | rfl <;> (rcases e2 with (h | h | h | ⟨c, h | h | h⟩) | h <;> cases h)) hl
  atlas := h.atlas.frame hm (fun k t e et ⟨t', e1, e2⟩ => by
    rw [e] at e1; cases e1
    rcases et with rfl | rfl | rfl | ⟨i, rfl⟩ <;> (rcases e2 with (h | h | h | ⟨c, h | h | h⟩) | h <;> cases h)) hl
  sch := h.sch.mod hm fun k f e ⟨t', e1, e2⟩ => by
    rw [(h.schl k f e).1] at e1; cases e1
    rcases e2 with (h | h | h | ⟨c, h | h | h⟩) | h <;> cases h
  schl k f e := ⟨by rw [hl k (h.schl k f e).2]; exact (h.schl k f e).1, Nat.lt_of_lt_of_le (h.schl k f e).2 hm.size⟩
  tabs := by
    have := h.tabs.mod hm fun k e ⟨t', e1, e2⟩ => by
      rw [h.tabsl k e] at e1; cases e1
      rcases e2 with (h | h | h | ⟨c, h | h | h⟩) | h <;> cases h
    simpa using this
  tabsl k e := by rw [hl k (h.tabs.vblk_lt e)]; exact h.tabsl k e
  spots := hsp
  spotsl k e := by rw [hl k (h.spots.vblk_lt e)]; exact h.spotsl k e
  tab i hi := by
    simp only [List.length_set] at hi
    simp only [List.getElem_set]
    by_cases hin : n = i
    · subst hin
      simp only [if_true]
      exact hT
    · simp only [hin, if_false]
      exact (h.tab i hi).frame hm (fun k t e et ⟨t', e1, e2⟩ => by
        rw [e] at e1; cases e1
        rcases e2 with e2 | e2
        · exact hin (tabTag_inj e2 et)
        · subst e2
          rcases et with h | h | h | ⟨c, h | h | h⟩ <;> cases h) hl
def updC (f : Nat → List Part) (c : Nat) (l : List Part) (d : Nat) : List Part := if d = c then l else f d
theorem updC_same (f : Nat → List Part) (c : Nat) (l : List Part) : updC f c l c = l := if_pos rfl
theorem updC_ne (f : Nat → List Part) {c : Nat} {l : List Part} {d : Nat} (h : d ≠ c) : updC f c l d = f d := if_neg h
theorem colTag_inj {i c d : Nat} {t : Tag} (h1 : colTag i c t) (h2 : colTag i d t) : c = d := by
  rcases h1 with rfl | rfl | rfl <;> rcases h2 with h | h | h <;> cases h <;> rfl
/-- One column turned. -/
theorem TabAt.setCol {o o' : Lab} {w w' : World} {b i : Nat} {comps : List Nat} {wd pc : Nat → Nat} {T : TabM} (h : TabAt o w b i comps wd pc T) {c : Nat} (hc : c ∈ comps) {l : List Part} (hl : LabEq w o o') {Tg : Tag → Prop} (hTg : ∀ t, Tg t → colTag i c t) (hm : Mod (FP o Tg) w w')
    (hC : ColAt o' w' (pc c) i c (wd c) l) : TabAt o' w' b i comps wd pc ⟨T.rows, updC T.col c l⟩ := by
  obtain ⟨h1, rv, bm, hb, hr, hrl, hbm, hM, hCs⟩ := h
  refine ⟨by rw [hl b (lt_of_blk hb)]; exact h1, rv, bm, hm.get hb fun ⟨t, e1, e2⟩ => ?_, hr.mod hm fun k hk ⟨t, e1, e2⟩ => ?_, fun k hk => by rw [hl k (hr.vblk_lt hk)]; exact hrl k hk, by rw [hl bm (lt_of_blk hM)]; exact hbm, hM.mod hm fun ⟨t, e1, e2⟩ => ?_, fun d hd => ?_⟩
  · rw [h1] at e1; cases e1
    rcases hTg _ e2 with h | h | h <;> cases h
  · rw [hrl k hk] at e1; cases e1
    rcases hTg _ e2 with h | h | h <;> cases h
  · rw [hbm] at e1; cases e1
    rcases hTg _ e2 with h | h | h <;> cases h
  · show ColAt o' w' (pc d) i d (wd d) (updC T.col c l d)
    by_cases hdc : d = c
    · subst hdc
      rw [updC_same]; exact hC
    · rw [updC_ne _ hdc]
      exact (hCs d hd).frame hm (fun k t e et ⟨t', e1, e2⟩ => by
        rw [e] at e1; cases e1
        exact hdc (colTag_inj et (hTg _ e2))) hl
/-- Labels of what is there alone. -/
def cutL (o : Lab) (n k : Nat) : Option Tag := if k < n then o k else none
theorem LabEq.cut (w : World) (o : Lab) : LabEq w o (cutL o w.heap.size) := fun k hk => if_pos hk
theorem FP.cut {o : Lab} {n : Nat} {T : Tag → Prop} {k : Nat} (h : FP (cutL o n) T k) : FP o T k ∧ k < n := by
  obtain ⟨t, e1, e2⟩ := h
  unfold cutL at e1
  split at e1
  · exact ⟨⟨t, e1, e2⟩, by assumption⟩
  · cases e1
theorem StoreP.cut {o : Lab} {w w' : World} {b : Nat} {p : Ptrs} {S : SM} (h : StoreP o w b p S) (hm : Same w w') : StoreP (cutL o w.heap.size) w' b p S := h.frame hm (fun _ _ _ h => h) (LabEq.cut w o)
theorem cutL_none {o : Lab} {n k : Nat} (h : n ≤ k) : cutL o n k = none := if_neg (by omega)
/-- The store is S' now; what changed was its own; what is new is labelled as far as it is the store's. -/
def Turned (o : Lab) (w : World) (b : Nat) (S' : SM) (w' : World) : Prop := ∃ o' p', LabEq w o o' ∧ StoreP o' w' b p' S' ∧ Mod (FP o fun _ => True) w w' ∧ ∀ k, w'.heap.size ≤ k → o' k = none
/-- .. behind local blocks, and ahead of writes into them. -/
theorem Turned.wrap {o : Lab} {w w4 w5 w6 : World} {b : Nat} {S' : SM} (m : Same w w4) (t : Turned (cutL o w.heap.size) w4 b S' w5) (hz : Mod (fun k => w.heap.size ≤ k ∧ k < w4.heap.size) w5 w6) : Turned o w b S' w6 := by
  obtain ⟨o', p', hl, hP, hm, hc⟩ := t
  have ml := m.size
  have hl' : LabEq w o (cutL o' w6.heap.size) := fun k hk => by
    have := hm.size
    have := hz.size
    have e := hl k (by omega)
    unfold cutL at *
    rw [if_pos (by omega), e, if_pos hk]
  refine ⟨cutL o' w6.heap.size, p', hl', hP.frame hz (fun k t e ⟨e1, e2⟩ => ?_) (fun k hk => ?_), ((Mod.of_same m).trans (hm.mono fun k _ hk => hk.cut.1)).trans' (hz.mono fun k _ hk => .inr hk.1), fun k hk => cutL_none hk⟩
  · rw [hl k e2] at e
    rw [cutL_none e1] at e; cases e
  · have := hz.size
    unfold cutL
    rw [if_pos (by omega)]
theorem Turned.of {o o' : Lab} {w w4 w' w'' : World} {b : Nat} {S' : SM} {p' : Ptrs} {T : Tag → Prop} (m4 : Same w w4) (hl : LabEq w4 (cutL o w.heap.size) o') (hP : StoreP o' w' b p' S') (hm : Mod (FP (cutL o w.heap.size) T) w4 w') (hz : Mod (fun k => w.heap.size ≤ k ∧ k < w4.heap.size) w' w'') : Turned o w b S' w'' := by
  refine Turned.wrap m4 ⟨cutL o' w'.heap.size, p', fun k hk => ?_, hP.frame (Mod.refl (fun _ => False) _) (fun _ _ _ h => h) (LabEq.cut w' o'), hm.mono fun k _ hk => FP.mono (fun _ _ => trivial) hk, fun k hk => cutL_none hk⟩ hz
  have := hm.size
  unfold cutL at *
  rw [if_pos (by omega), hl k hk]
theorem Turned.seq {o o1 : Lab} {w w1 w2 w3 : World} {b : Nat} {S' : SM} (hl : LabEq w o o1) (hm : Mod (FP o fun _ => True) w w1) (m : Same w1 w2) (t : Turned o1 w2 b S' w3) : Turned o w b S' w3 := by
  obtain ⟨o', p', hl', hP, hm', hc⟩ := t
  have hm2 := hm.trans (Mod.of_same m)
  exact ⟨o', p', hl.trans hl' hm2.size, hP, Mod.labs hm2 hl hm', hc⟩
end Go.Proofs.YtlkpadfkmdgjcaaGreatDoor
end
section
set_option linter.unusedSimpArgs false
set_option linter.unusedVariables false
namespace Go.Proofs.YtlkpadfkmdgjcaaGreatDoor
open Go Go.Ev
set_option linter.unusedVariables false
set_option linter.unusedSimpArgs false
set_option maxRecDepth 100000

/-! ### Tables that are laid -/
theorem listF_mem {m c : Nat} : c ∈ listF m ↔ c < 32 ∧ m.testBit c = true := by simp [listF]
theorem listF_lt {m n c : Nat} (hm : m < 2 ^ n) (hc : c ∈ listF m) : c < n := by
  have h := (listF_mem.1 hc).2
  by_cases h1 : c < n
  · exact h1
  · have : m < 2 ^ c := Nat.lt_of_lt_of_le hm (Nat.pow_le_pow_right (by omega) (by omega))
    rw [Nat.testBit_lt_two_pow this] at h; cases h
theorem listF_nodup (m : Nat) : (listF m).Nodup := List.Pairwise.filter _ List.nodup_range
theorem apTab : appT Tryz.prog 137 1 8 = true := by kernel_rfl
theorem slTab_is : ∃ e, Tryz.prog.underlying 137 = some (.slice e) := slT_of (by kernel_rfl)
def tabLab (o : Lab) (n bm bt i k : Nat) : Option Tag := if k < n then o k else if k = bm then some (.tmap i) else if k = bt then some (.table i) else none
/-- A table of which the columns of l are there. -/
def TabUp (o : Lab) (w : World) (bt bm i : Nat) (l : List Nat) (wd pc : Nat → Nat) : Prop :=
  o bt = some (.table i) ∧ blk w bt = some (.cells #[.slice none 0 0, .map (some bm)] 149) ∧ o bm = some (.tmap i) ∧ MapIs w bm .i64 (l.map fun (c : Nat) => ((c : Int), ptrV (pc c))) ∧ ∀ c ∈ l, ColAt o w (pc c) i c (wd c) []
theorem TabUp.done {o : Lab} {w : World} {bt bm i : Nat} {l : List Nat} {wd pc : Nat → Nat} (h : TabUp o w bt bm i l wd pc) : TabAt o w bt i l wd pc TabM.empty := by
  obtain ⟨h1, h2, h3, h4, h5⟩ := h
  exact ⟨h1, _, bm, h2, Own.nil _ _, (fun k hk => by obtain ⟨_, _, _, e⟩ := hk; cases e), h3, h4, h5⟩
theorem mk_of {o : Lab} {w : World} {b : Nat} {p : Ptrs} {S : SM} (h : StoreP o w b p S) : ∀ m ∈ S.masks, m < 2 ^ S.cs.length := by
  obtain ⟨pn, nodes, hN, e, hnd, hE, hlt⟩ := h.atlas
  exact hlt
/-- The state behind some tables more. -/
def layS (S : SM) (j : Nat) : SM := { S with tabs := S.tabs ++ List.replicate j TabM.empty }
theorem StoreP.addTab {o o' : Lab} {w w' : World} {b : Nat} {p : Ptrs} {S : SM} (h : StoreP o w b p S) {tv' : Value} {bt : Nat} {pc' : Nat → Nat} (hlt : S.tabs.length < S.masks.length) (hl : LabEq w o o') (hm : Mod (fun k => k = b ∨ vblk p.tv k) w w')
    (hb : blk w' b = some (.cells #[ptrV p.bR, .slice p.ca S.cs.length p.cc, p.rv, ptrV p.bA, tv', p.sv] 139))
    (ht : Own w' tv' 1 (((List.range S.tabs.length).map fun i => ptrV (p.pt i)) ++ [ptrV bt])) (htl : ∀ k, vblk tv' k → o' k = some .tabs)
    (hT : TabAt o' w' bt S.tabs.length (compsM S.masks S.tabs.length) (wdF S.cs) pc' TabM.empty) :
    StoreP o' w' b { p with tv := tv', pt := updN p.pt S.tabs.length bt, pc := fun i => if i = S.tabs.length then pc' else p.pc i } (layS S 1) := by
  have hlabT : ∀ k t, o k = some t → t ≠ .store → t ≠ .tabs → ¬ (k = b ∨ vblk p.tv k) := by
    rintro k t e n1 n2 (rfl | e2)
    · rw [h.lab] at e; cases e; exact n1 rfl
    · rw [h.tabsl k e2] at e; cases e; exact n2 rfl
  exact {
    lab := by rw [hl b (lt_of_blk h.here)]; exact h.lab
    good := h.good
    tle := by simp [layS]; omega
    mle := h.mle
    sle := h.sle
    here := hb
    roll := h.roll.frame hm (fun k t e et => hlabT k t e (by rintro rfl; rcases et with h | h | h <;> cases h) (by rintro rfl; rcases et with h | h | h <;> cases h)) hl
    atlas := h.atlas.frame hm (fun k t e et => hlabT k t e (by rintro rfl; rcases et with h | h | h | ⟨i, h⟩ <;> cases h) (by rintro rfl; rcases et with h | h | h | ⟨i, h⟩ <;> cases h)) hl
    sch := h.sch.mod hm fun k f e => hlabT k _ (h.schl k f e).1 (fun h => by cases h) (fun h => by cases h)
    schl := fun k f e => ⟨by rw [hl k (h.schl k f e).2]; exact (h.schl k f e).1, Nat.lt_of_lt_of_le (h.schl k f e).2 hm.size⟩
    tabs := by
      have e : (List.range (layS S 1).tabs.length).map (fun i => ptrV (updN p.pt S.tabs.length bt i)) = ((List.range S.tabs.length).map fun i => ptrV (p.pt i)) ++ [ptrV bt] := by
        show (List.range (S.tabs ++ List.replicate 1 TabM.empty).length).map _ = _
        rw [List.length_append, List.length_replicate, List.range_succ, List.map_append, List.map_cons, List.map_nil, updN_same]
        congr 1
        apply List.map_congr_left
        intro i hi
        rw [updN_ne _ (by simp at hi; omega)]
      exact e ▸ ht
    tabsl := htl
    spots := h.spots.mod hm fun k e => hlabT k _ (h.spotsl k e) (fun h => by cases h) (fun h => by cases h)
    spotsl := fun k e => by rw [hl k (h.spots.vblk_lt e)]; exact h.spotsl k e
    tab := fun i hi => by
      have hi' : i < S.tabs.length + 1 := by simpa [layS] using hi
      by_cases hin : i = S.tabs.length
      · subst hin
        have e : (layS S 1).tabs[S.tabs.length]'hi = TabM.empty := by simp [layS]
        simp only [e, if_true, updN_same]
        exact hT
      · have hi2 : i < S.tabs.length := by omega
        have e : (layS S 1).tabs[i]'hi = S.tabs[i] := by simp [layS, List.getElem_append_left hi2]
        simp only [e, hin, if_false, updN_ne _ hin]
        exact (h.tab i hi2).frame hm (fun k t e et => hlabT k t e (by rintro rfl; rcases et with h | h | h | ⟨c, h | h | h⟩ <;> cases h) (by rintro rfl; rcases et with h | h | h | ⟨c, h | h | h⟩ <;> cases h)) hl }
end Go.Proofs.YtlkpadfkmdgjcaaGreatDoor
end
section
set_option linter.unusedSimpArgs false
set_option linter.unusedVariables false
namespace Go.Proofs.YtlkpadfkmdgjcaaGreatDoor
open Go Go.Ev
set_option linter.unusedVariables false
set_option linter.unusedSimpArgs false
set_option maxRecDepth 100000
attribute [local irreducible] kO kB kStr kInt kN kG kIf kfld kld kldN kst knew kmap kbld kbldS kext kcnv klenStr klen kcap kprt kprtN kbool kint kstr keq kun ksl kix kiv kta kmk kmm ksem ksemU kextf kcallV kcallM kcall kL

theorem layS_0 (S : SM) : layS S 0 = S := by simp [layS]
theorem layS_1 (S : SM) (j : Nat) : layS (layS S j) 1 = layS S (j + 1) := by
  unfold layS
  simp only [List.append_assoc]
  have e : List.replicate j TabM.empty ++ List.replicate 1 TabM.empty = List.replicate (j + 1) TabM.empty := by
    rw [List.replicate_succ' (n := j)]; rfl
  rw [e]
theorem sLay_spec {o : Lab} {w : World} (hD : DeAt w) {b : Nat} {p : Ptrs} {S : SM} (h : StoreP o w b p S) (hDo : o 18 = none) :
    Meets Tryz.prog 73 #[ptrV b] w fun v w' => v = .nilIface ∧ Turned o w b (layS S (S.masks.length - S.tabs.length)) w' := by
  have hDlt := hD.lt
  rw [ptrV]
  refine f73_ok ?_
  unfold f73
  have hb0 := h.here
  obtain ⟨ta0, tn0, tc0, et0, hts0, htn0⟩ := h.tabs.is
  have htn0 : tn0 = S.tabs.length := by simpa using htn0 rfl
  rw [et0] at hb0
  subst htn0
  repeat (first | refine kN_at ?_ | refine kB_at ?_ | refine kfld_of ?_ | refine kext_at rfl ?_ | refine kld_at hb0 rfl ?_ | refine kldN_at hb0 rfl (by omega) ?_ | refine kG_of (by first | exact rfl | omega) ?_ | refine klen_at ?_ | refine eql_at ?_ | refine neq_at ?_ | refine lss_at ?_ | refine leq_at ?_ | refine gtr_at ?_ | refine geq_at ?_ | refine add_at (by omega) (by omega) ?_ | refine sub_at (by omega) (by omega) ?_ | refine not_at ?_ | refine kO_at ?_ | refine kprt_at rfl ?_ | refine kprtN_at rfl ?_ | refine kcap_at ?_ | refine klenStr_at ?_ | refine kN_iat ?_ | refine kN_fat ?_ | refine kIf_T (by first | exact rfl | exact decT (by omega) | exact notT (decF (by omega))) ?_ | refine kIf_F (by first | exact rfl | exact decF (by omega) | exact notF (decT (by omega))) ?_)
  refine kL1_of (S.masks.length - S.tabs.length) (fun j x wr => x = natV (S.tabs.length + j) ∧ j ≤ S.masks.length - S.tabs.length ∧ Turned o w b (layS S j) wr) ⟨lI1_0 ⟨rfl, by omega, cutL o w.heap.size, p, LabEq.cut w o, ?_, Mod.refl _ _, fun k hk => cutL_none hk⟩, fun x wr hx => ?_⟩
  · rw [layS_0]; exact h.cut (Mod.refl _ _)
  obtain ⟨j, hj, ⟨rfl, _, o1, p1, hl1, hP1, hm1, hc1⟩, hJ⟩ := lI1_step hx
  have hDr : DeAt wr := hD.mod hm1 fun ⟨t, e1, _⟩ => by rw [hDo] at e1; cases e1
  have hbr := hP1.here
  have hcs : (layS S j).cs = S.cs := rfl
  have hms : (layS S j).masks = S.masks := rfl
  have htl : (layS S j).tabs.length = S.tabs.length + j := by simp [layS]
  unfold f73_0
  repeat (first | refine kN_at ?_ | refine kB_at ?_ | refine kfld_of ?_ | refine kext_at rfl ?_ | refine kld_at hbr rfl ?_ | refine kldN_at hbr rfl (by omega) ?_ | refine kG_of (by first | exact rfl | omega) ?_ | refine klen_at ?_ | refine eql_at ?_ | refine neq_at ?_ | refine lss_at ?_ | refine leq_at ?_ | refine gtr_at ?_ | refine geq_at ?_ | refine add_at (by omega) (by omega) ?_ | refine sub_at (by omega) (by omega) ?_ | refine not_at ?_ | refine kO_at ?_ | refine kprt_at rfl ?_ | refine kprtN_at rfl ?_ | refine kcap_at ?_ | refine klenStr_at ?_ | refine kN_iat ?_ | refine kN_fat ?_ | refine kIf_T (by first | exact rfl | exact decT (by omega) | exact notT (decF (by omega))) ?_ | refine kIf_F (by first | exact rfl | exact decF (by omega) | exact notF (decT (by omega))) ?_)
  refine kcall_of (lenAt_spec hP1.atlas) ?_
  rintro v w8 ⟨rfl, rfl⟩
  rw [natV, natV]
  refine lss_at ?_
  refine kB_at ?_
  refine kIf_dec (fun hlt => ?_) (fun hge => ?_)
  · have hlt : S.tabs.length + j < S.masks.length := by rw [hms] at hlt; omega
    have hi : S.tabs.length + j < (layS S j).masks.length := hlt
    unfold f73_1
    repeat (first | refine kN_at ?_ | refine kB_at ?_ | refine kfld_of ?_ | refine kext_at rfl ?_ | refine kld_at hbr rfl ?_ | refine kldN_at hbr rfl (by omega) ?_ | refine kG_of (by first | exact rfl | omega) ?_ | refine klen_at ?_ | refine eql_at ?_ | refine neq_at ?_ | refine lss_at ?_ | refine leq_at ?_ | refine gtr_at ?_ | refine geq_at ?_ | refine add_at (by omega) (by omega) ?_ | refine sub_at (by omega) (by omega) ?_ | refine not_at ?_ | refine kO_at ?_ | refine kprt_at rfl ?_ | refine kprtN_at rfl ?_ | refine kcap_at ?_ | refine klenStr_at ?_ | refine kN_iat ?_ | refine kN_fat ?_ | refine kIf_T (by first | exact rfl | exact decT (by omega) | exact notT (decF (by omega))) ?_ | refine kIf_F (by first | exact rfl | exact decF (by omega) | exact notF (decT (by omega))) ?_)
    refine kcall_of (maskAt_spec hP1.atlas (S.tabs.length + j) hi) ?_
    rintro v w13 ⟨rfl, rfl⟩
    repeat (first | refine kN_at ?_ | refine kB_at ?_ | refine kfld_of ?_ | refine kext_at rfl ?_ | refine kG_of (by first | exact rfl | omega) ?_ | refine klen_at ?_ | refine eql_at ?_ | refine neq_at ?_ | refine lss_at ?_ | refine leq_at ?_ | refine gtr_at ?_ | refine geq_at ?_ | refine add_at (by omega) (by omega) ?_ | refine sub_at (by omega) (by omega) ?_ | refine not_at ?_ | refine kO_at ?_ | refine kprt_at rfl ?_ | refine kprtN_at rfl ?_ | refine kcap_at ?_ | refine klenStr_at ?_ | refine kN_iat ?_ | refine kN_fat ?_ | refine kIf_T (by first | exact rfl | exact decT (by omega) | exact notT (decF (by omega))) ?_ | refine kIf_F (by first | exact rfl | exact decF (by omega) | exact notF (decT (by omega))) ?_)
    rw [keq_nil_nil' ifErr]
    repeat (first | refine kN_at ?_ | refine kB_at ?_ | refine kfld_of ?_ | refine kext_at rfl ?_ | refine kG_of (by first | exact rfl | omega) ?_ | refine klen_at ?_ | refine eql_at ?_ | refine neq_at ?_ | refine lss_at ?_ | refine leq_at ?_ | refine gtr_at ?_ | refine geq_at ?_ | refine add_at (by omega) (by omega) ?_ | refine sub_at (by omega) (by omega) ?_ | refine not_at ?_ | refine kO_at ?_ | refine kprt_at rfl ?_ | refine kprtN_at rfl ?_ | refine kcap_at ?_ | refine klenStr_at ?_ | refine kN_iat ?_ | refine kN_fat ?_ | refine kIf_T (by first | exact rfl | exact decT (by omega) | exact notT (decF (by omega))) ?_ | refine kIf_F (by first | exact rfl | exact decF (by omega) | exact notF (decT (by omega))) ?_)
    have hmlt := mk_of hP1 _ (List.getElem_mem hi)
    have hmi : (layS S j).masks[S.tabs.length + j] = S.masks[S.tabs.length + j] := rfl
    have hcomps : compsM S.masks (S.tabs.length + j) = listF (S.masks[S.tabs.length + j]) := by
      unfold compsM; rw [List.getElem?_eq_getElem hlt]; rfl
    rw [hmi] at hmlt
    rw [hmi]
    rw [hcs] at hmlt
    generalize hm : S.masks[S.tabs.length + j] = m at *
    have hg16 := hP1.good.1
    rw [hcs] at hg16
    have hm32 : m < 4294967296 := by
      have : 2 ^ S.cs.length ≤ 2 ^ 16 := Nat.pow_le_pow_right (by omega) hg16
      omega
    unfold f73_2
    refine kmap_of fun w19 h19 hs19 hm19 => ?_
    refine kbld_of (cs := [.slice none 0 0, .map (some w13.heap.size)]) rfl ?_
    refine knew_of fun w22 h22 hs22 hb22 => ?_
    have hb22 : blk w22 w19.heap.size = some (.cells #[.slice none 0 0, .map (some w13.heap.size)] 149) := hb22
    have m22 := h19.trans h22
    refine kcall_of (List_spec (hDr.same m22) m hm32) ?_
    rintro v w24 ⟨la, lc, rfl, hls, h24, hlf⟩
    have m24 := m22.trans h24
    refine klen_at ?_
    have hl32 := listF_len m
    have hmle0 : S.masks.length ≤ 90000 := hP1.mle
    have hT0 : TabUp (tabLab o1 w13.heap.size w13.heap.size w19.heap.size (S.tabs.length + j)) w24 w19.heap.size w13.heap.size (S.tabs.length + j) [] (wdF S.cs) (fun _ => 0) :=
      ⟨by unfold tabLab; rw [if_neg (by omega), if_neg (by omega), if_pos rfl], h24.get hb22 (fun h => h), by unfold tabLab; rw [if_neg (by omega), if_pos rfl], ((hm19 .i64).same h22).same h24, fun c hc => by cases hc⟩
    refine kL1_of (listF m).length (fun q x wi => x = .int .i64 q ∧ ∃ o' pc, LabEq w13 o1 o' ∧ Mod (fun k => k = w13.heap.size) w24 wi ∧ TabUp o' wi w19.heap.size w13.heap.size (S.tabs.length + j) ((listF m).take q) (wdF S.cs) pc)
      ⟨lI1_0 ⟨rfl, tabLab o1 w13.heap.size w13.heap.size w19.heap.size (S.tabs.length + j), fun _ => 0, (fun k hk => by unfold tabLab; rw [if_pos hk]), Mod.refl _ _, by simpa using hT0⟩, fun x wi hx2 => ?_⟩
    obtain ⟨q, hq, ⟨rfl, o', pc, hlo, hmi2, hTU⟩, hJ2⟩ := lI1_step hx2
    have hbmlt : w13.heap.size < w22.heap.size := by omega
    have mi : Same w13 wi := m24.trans' (hmi2.mono fun k _ e => .inr (by omega))
    have hlsi : SlIs wi la (listF m).length 1 ((listF m).map natV) := hls.mod hmi2 fun bb oo e ek => by have := hlf bb oo e; omega
    unfold f73_3
    refine lss_at ?_
    refine kB_at ?_
    refine kIf_dec (fun hlq => ?_) (fun hgq => ?_)
    · have hlq : q < (listF m).length := by omega
      have hbi := mi.get hbr (fun h => h)
      have hcmem : (listF m)[q] ∈ listF m := List.getElem_mem hlq
      have hclt := listF_lt hmlt hcmem
      obtain ⟨hw1, hw2, hw3⟩ := wdF_of (cs := S.cs) hP1.good hclt
      have hsch := hP1.sch.same mi
      have hnin : (listF m)[q] ∉ (listF m).take q := by
        intro hin
        obtain ⟨a, ha, e⟩ := List.mem_iff_getElem.1 hin
        rw [List.getElem_take] at e
        have hal : a < q := by simp at ha; omega
        have := (List.pairwise_iff_getElem.1 (listF_nodup m)) a q (by omega) hlq hal
        exact this e
      generalize hcq : (listF m)[q] = c at *
      unfold f73_4
      refine kixld_of (F := natV) hlsi hlq rfl ?_
      rw [hcq]
      repeat (first | refine kN_at ?_ | refine kB_at ?_ | refine kfld_of ?_ | refine kext_at rfl ?_ | refine kld_at hbi rfl ?_ | refine kldN_at hbi rfl (by omega) ?_ | refine kG_of (by first | exact rfl | omega) ?_ | refine klen_at ?_ | refine eql_at ?_ | refine neq_at ?_ | refine lss_at ?_ | refine leq_at ?_ | refine gtr_at ?_ | refine geq_at ?_ | refine add_at (by omega) (by omega) ?_ | refine sub_at (by omega) (by omega) ?_ | refine not_at ?_ | refine kO_at ?_ | refine kprt_at rfl ?_ | refine kprtN_at rfl ?_ | refine kcap_at ?_ | refine klenStr_at ?_ | refine kN_iat ?_ | refine kN_fat ?_ | refine kIf_T (by first | exact rfl | exact decT (by omega) | exact notT (decF (by omega))) ?_ | refine kIf_F (by first | exact rfl | exact decF (by omega) | exact notF (decT (by omega))) ?_)
      rw [natV]
      refine kixfld_of (F := Comp.cells) (fun _ => rfl) hsch hclt (v := .int .i64 (wdF S.cs c)) (congrArg (fun z : Int => some (Value.int .i64 z)) hw1) rfl ?_
      refine kcall_of (cNew_spec o' wi (S.tabs.length + j) c (wdF S.cs c) (by omega) hw2 hw3) ?_
      rintro v w37 ⟨rfl, h37, hs37, hC37⟩
      repeat (first | refine kN_at ?_ | refine kB_at ?_ | refine kfld_of ?_ | refine kext_at rfl ?_ | refine kG_of (by first | exact rfl | omega) ?_ | refine klen_at ?_ | refine eql_at ?_ | refine neq_at ?_ | refine lss_at ?_ | refine leq_at ?_ | refine gtr_at ?_ | refine geq_at ?_ | refine add_at (by omega) (by omega) ?_ | refine sub_at (by omega) (by omega) ?_ | refine not_at ?_ | refine kO_at ?_ | refine kprt_at rfl ?_ | refine kprtN_at rfl ?_ | refine kcap_at ?_ | refine klenStr_at ?_ | refine kN_iat ?_ | refine kN_fat ?_ | refine kIf_T (by first | exact rfl | exact decT (by omega) | exact notT (decF (by omega))) ?_ | refine kIf_F (by first | exact rfl | exact decF (by omega) | exact notF (decT (by omega))) ?_)
      rw [keq_nil_nil' ifErr]
      obtain ⟨t1, t2, t3, t4, t5⟩ := hTU
      have t2' := h37.get t2 (fun h => h)
      have lb1 := lt_of_blk t2
      have lb2 := lt_of_blk t4
      repeat (first | refine kN_at ?_ | refine kB_at ?_ | refine kfld_of ?_ | refine kext_at rfl ?_ | refine kld_at t2' rfl ?_ | refine kldN_at t2' rfl (by omega) ?_ | refine kG_of (by first | exact rfl | omega) ?_ | refine klen_at ?_ | refine eql_at ?_ | refine neq_at ?_ | refine lss_at ?_ | refine leq_at ?_ | refine gtr_at ?_ | refine geq_at ?_ | refine add_at (by omega) (by omega) ?_ | refine sub_at (by omega) (by omega) ?_ | refine not_at ?_ | refine kO_at ?_ | refine kprt_at rfl ?_ | refine kprtN_at rfl ?_ | refine kcap_at ?_ | refine klenStr_at ?_ | refine kN_iat ?_ | refine kN_fat ?_ | refine kIf_T (by first | exact rfl | exact decT (by omega) | exact notT (decF (by omega))) ?_ | refine kIf_F (by first | exact rfl | exact decF (by omega) | exact notF (decT (by omega))) ?_)
      have hlkn := lk_none (fun d => ptrV (pc d)) (c : Int) ((listF m).take q) (fun x hx e => hnin (by
        have : x = c := by omega
        exact this ▸ hx))
      refine kmapUp_of Tryz.underlying147 Tryz.underlying3 (t4.same h37) hlkn fun w45 h45 hs45 hM45 => ?_
      repeat (first | refine kN_at ?_ | refine kB_at ?_ | refine kfld_of ?_ | refine kext_at rfl ?_ | refine kG_of (by first | exact rfl | omega) ?_ | refine klen_at ?_ | refine eql_at ?_ | refine neq_at ?_ | refine lss_at ?_ | refine leq_at ?_ | refine gtr_at ?_ | refine geq_at ?_ | refine add_at (by omega) (by omega) ?_ | refine sub_at (by omega) (by omega) ?_ | refine not_at ?_ | refine kO_at ?_ | refine kprt_at rfl ?_ | refine kprtN_at rfl ?_ | refine kcap_at ?_ | refine klenStr_at ?_ | refine kN_iat ?_ | refine kN_fat ?_ | refine kIf_T (by first | exact rfl | exact decT (by omega) | exact notT (decF (by omega))) ?_ | refine kIf_F (by first | exact rfl | exact decF (by omega) | exact notF (decT (by omega))) ?_)
      rw [cast_succ]
      have hsi := mi.size
      have m45 : Mod (fun k => k = w13.heap.size) w24 w45 := (hmi2.trans (Mod.of_same h37)).trans h45
      have lwi := mi.size
      have ecl : (listF m).take (q + 1) = (listF m).take q ++ [c] := by
        rw [List.take_add_one, List.getElem?_eq_getElem hlq, hcq]; rfl
      refine hJ2 _ _ hlq ⟨rfl, ext o' wi.heap.size (.col (S.tabs.length + j) c), updN pc c wi.heap.size, hlo.trans (LabEq.ext wi o' _) mi.size, m45, ?_, ?_, ?_, ?_, ?_⟩
      · unfold ext; rw [if_pos lb1]; exact t1
      · exact h45.get t2' (by omega)
      · unfold ext; rw [if_pos lb2]; exact t3
      · have e : ((listF m).take (q + 1)).map (fun (d : Nat) => ((d : Int), ptrV (updN pc c wi.heap.size d))) = ((listF m).take q).map (fun (d : Nat) => ((d : Int), ptrV (pc d))) ++ [((c : Int), ptrV wi.heap.size)] := by
          rw [ecl, List.map_append, List.map_cons, List.map_nil, updN_same]
          congr 1
          apply List.map_congr_left
          intro d hd
          rw [updN_ne _ (by rintro rfl; exact hnin hd)]
        rw [e]; exact hM45
      · intro d hd
        rw [ecl] at hd
        rcases List.mem_append.1 hd with hd1 | hd1
        · rw [updN_ne _ (fun e : d = c => hnin (e ▸ hd1))]
          refine (((t5 d hd1).frame h37 (fun _ _ _ _ h => h) (LabEq.ext wi o' _)).frame h45 (fun k t e et ek => ?_) (LabEq.refl _ _))
          subst ek
          unfold ext at e
          rw [if_pos lb2, t3] at e
          cases e
          rcases et with h | h | h <;> cases h
        · have : d = c := by simpa using hd1
          subst this
          rw [updN_same]
          refine hC37.frame h45 (fun k t e et ek => ?_) (LabEq.refl _ _)
          subst ek
          unfold ext at e
          rw [if_pos lb2, t3] at e
          cases e
          rcases et with h | h | h <;> cases h
    · have : q = (listF m).length := by omega
      subst this
      rw [List.take_length] at hTU
      have hPi := hP1.frame mi (fun _ _ _ h => h) hlo
      have hbi := hPi.here
      obtain ⟨ta, tn, tc, et, hts, htn⟩ := hPi.tabs.is
      have htn : tn = S.tabs.length + j := by
        have := htn rfl
        rw [List.length_map, List.length_range, htl] at this
        exact this
      rw [et] at hbi
      subst htn
      repeat (first | refine kN_at ?_ | refine kB_at ?_ | refine kfld_of ?_ | refine kext_at rfl ?_ | refine kld_at hbi rfl ?_ | refine kldN_at hbi rfl (by omega) ?_ | refine kG_of (by first | exact rfl | omega) ?_ | refine klen_at ?_ | refine eql_at ?_ | refine neq_at ?_ | refine lss_at ?_ | refine leq_at ?_ | refine gtr_at ?_ | refine geq_at ?_ | refine add_at (by omega) (by omega) ?_ | refine sub_at (by omega) (by omega) ?_ | refine not_at ?_ | refine kO_at ?_ | refine kprt_at rfl ?_ | refine kprtN_at rfl ?_ | refine kcap_at ?_ | refine klenStr_at ?_ | refine kN_iat ?_ | refine kN_fat ?_ | refine kIf_T (by first | exact rfl | exact decT (by omega) | exact notT (decF (by omega))) ?_ | refine kIf_F (by first | exact rfl | exact decF (by omega) | exact notF (decT (by omega))) ?_)
      refine kbldS_of (cs := [ptrV w19.heap.size]) rfl fun w51 h51 hs51 hb51 => ?_
      have hP51 := hPi.frame h51 (fun _ _ _ h => h) (LabEq.cut wi o')
      have ht51 := hP51.tabs
      rw [et] at ht51
      have hmle := hP1.mle
      refine ksem_append apTab (by omega) ht51 (Src.ofSlIs (hk := slTab_is.choose_spec) 1 (SlIs.blk hb51 rfl) rfl) (by simp; omega) (by simp; omega) ?_
      intro v' w53 ho53 hm53 hf53
      have hb53 := hm53.get (h51.get hbi (fun h => h)) (fun e => by
        have := hP51.tabsl b (by rw [et]; exact e)
        rw [hP51.lab] at this; cases this)
      obtain ⟨a', n', c', rfl, _⟩ := ho53.is
      repeat (first | refine kN_at ?_ | refine kB_at ?_ | refine kfld_of ?_ | refine kext_at rfl ?_ | refine kG_of (by first | exact rfl | omega) ?_ | refine klen_at ?_ | refine eql_at ?_ | refine neq_at ?_ | refine lss_at ?_ | refine leq_at ?_ | refine gtr_at ?_ | refine geq_at ?_ | refine add_at (by omega) (by omega) ?_ | refine sub_at (by omega) (by omega) ?_ | refine not_at ?_ | refine kO_at ?_ | refine kprt_at rfl ?_ | refine kprtN_at rfl ?_ | refine kcap_at ?_ | refine klenStr_at ?_ | refine kN_iat ?_ | refine kN_fat ?_ | refine kIf_T (by first | exact rfl | exact decT (by omega) | exact notT (decF (by omega))) ?_ | refine kIf_F (by first | exact rfl | exact decF (by omega) | exact notF (decT (by omega))) ?_)
      refine kst1_of hb53 rfl rfl (by simp) fun w55 h55 hs55 hb55 => ?_
      simp only [List.setIfInBounds_toArray, List.set_cons_succ, List.set_cons_zero] at hb55
      repeat (first | refine kN_at ?_ | refine kB_at ?_ | refine kfld_of ?_ | refine kext_at rfl ?_ | refine kG_of (by first | exact rfl | omega) ?_ | refine klen_at ?_ | refine eql_at ?_ | refine neq_at ?_ | refine lss_at ?_ | refine leq_at ?_ | refine gtr_at ?_ | refine geq_at ?_ | refine add_at (by omega) (by omega) ?_ | refine sub_at (by omega) (by omega) ?_ | refine not_at ?_ | refine kO_at ?_ | refine kprt_at rfl ?_ | refine kprtN_at rfl ?_ | refine kcap_at ?_ | refine klenStr_at ?_ | refine kN_iat ?_ | refine kN_fat ?_ | refine kIf_T (by first | exact rfl | exact decT (by omega) | exact notT (decF (by omega))) ?_ | refine kIf_F (by first | exact rfl | exact decF (by omega) | exact notF (decT (by omega))) ?_)
      have hm55 : Mod (fun k => k = b ∨ vblk p1.tv k) w51 w55 := (hm53.mono fun k _ e => .inr (by rw [et]; exact e)).trans (h55.mono fun k _ e => .inl e)
      have lb51 := lt_of_blk hP51.here
      have hTA := hTU.done
      have lw51 : wi.heap.size ≤ w51.heap.size := h51.size
      have hlt1 : LabEq w51 (cutL o' wi.heap.size) (ext (cutL o' wi.heap.size) w51.heap.size .tabs) := LabEq.ext _ _ _
      have hTA51 : TabAt (ext (cutL o' wi.heap.size) w51.heap.size .tabs) w55 w19.heap.size (S.tabs.length + j) (compsM S.masks (S.tabs.length + j)) (wdF S.cs) pc TabM.empty := by
        rw [hcomps]
        refine ((hTA.frame h51 (fun _ _ _ _ h => h) (LabEq.cut wi o')).frame hm55 (fun k t e et2 ek => ?_) hlt1)
        rcases ek with rfl | ek
        · rw [hP51.lab] at e; cases e
          rcases et2 with h | h | h | ⟨d, h | h | h⟩ <;> cases h
        · rw [hP51.tabsl k ek] at e; cases e
          rcases et2 with h | h | h | ⟨d, h | h | h⟩ <;> cases h
      have hnew := hP51.addTab (tv' := .slice a' n' c') (bt := w19.heap.size) (pc' := pc) (by rw [htl]; exact hi) hlt1 hm55 hb55 (ho53.mod h55 fun k hk e => by
          subst e
          rcases hf53 _ hk with h | h
          · have := hP51.tabsl _ (by rw [et]; exact h)
            rw [hP51.lab] at this; cases this
          · omega) (fun k hk => by
          unfold ext
          rcases hf53 k hk with h | h
          · have h' : vblk p1.tv k := by rw [et]; exact h
            have := hP51.tabs.vblk_lt h'
            rw [if_pos this]
            exact hP51.tabsl k h'
          · rw [if_neg (by omega)]) (by rw [htl]; exact hTA51)
      rw [layS_1] at hnew
      have hJt : natV (S.tabs.length + (j + 1)) = .int .i64 (((S.tabs.length + j : Nat) : Int) + 1) := by
        unfold natV
        congr 1
      rw [← hJt]
      have lwi := mi.size
      refine hJ _ _ (by omega) ⟨rfl, by omega, cutL (ext (cutL o' wi.heap.size) w51.heap.size .tabs) w55.heap.size, _, fun k hk => ?_, hnew.frame (Mod.refl (fun _ => False) _) (fun _ _ _ h => h) (LabEq.cut w55 _), ?_, fun k hk => cutL_none hk⟩
      · have h1 := hm1.size
        have h2 := hm55.size
        unfold cutL ext
        rw [if_pos (by omega), if_pos (by omega)]
        show (if k < wi.heap.size then o' k else none) = o k
        rw [if_pos (by omega), hlo k (by omega)]
        exact hl1 k hk
      · refine hm1.trans' ((Mod.of_same (mi.trans h51)).trans (hm55.mono fun k hk e => ?_))
        rcases Nat.lt_or_ge k w.heap.size with hkw | hkw
        · left
          have hlab : ∃ t, o k = some t := by
            have h1 := hm1.size
            have e1 : cutL o' wi.heap.size k = o k := by
              unfold cutL
              rw [if_pos (by omega), hlo k (by omega)]
              exact hl1 k hkw
            rw [← e1]
            rcases e with rfl | e
            · exact ⟨_, hP51.lab⟩
            · exact ⟨_, hP51.tabsl k e⟩
          obtain ⟨t, ht⟩ := hlab
          exact ⟨t, ht, trivial⟩
        · exact .inr hkw
  · have : j = S.masks.length - S.tabs.length := by rw [hms] at hge; omega
    subst this
    exact ⟨rfl, o1, p1, hl1, hP1, hm1, hc1⟩
end Go.Proofs.YtlkpadfkmdgjcaaGreatDoor
end
