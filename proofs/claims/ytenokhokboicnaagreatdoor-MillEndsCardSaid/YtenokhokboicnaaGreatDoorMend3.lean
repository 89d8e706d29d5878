/-
Lemmas for the statements of this seat: no statement of the seat is proved in this part (3 of 7); the conditions stand in each theorem.
-/
import Derived.Test.YtenokhokboicnaaGreatDoorMend2
import Derived.Test.YtenokhokboicnaaGreatDoorProg
import Derived.Shelf.SlSortCmp.WholeK
import Derived.Lib.SliceRun
set_option linter.unusedSimpArgs false
set_option linter.unusedVariables false
set_option maxRecDepth 100000
namespace Go.Proofs.YtenokhokboicnaaGreatDoor
open Go Go.Ev
section
attribute [local irreducible] kO kB kStr kInt kN kG kIf kfld kld kldN kst knew kmap kbld kbldS kext kcnv klenStr klen kcap kprt kprtN kbool kint kstr keq kun ksl kix kiv kta kmk kmm ksem ksemU kextf kcallV kcallM kcall kL
theorem ptRoll : isPtrT Tryz.prog 234 = true := by kernel_rfl
def genC (x : Int × Bool) : List Value := [nV x.1, .bool x.2]
def rollTag (t : Tag) : Prop := t = .roll ∨ t = .places ∨ t = .row
def RollAt (o : Lab) (w : World) (b : Nat) (gens : List (Int × Bool)) (free : List Nat) : Prop :=
 o b = some .roll ∧ gens.length ≤ 64 ∧ free.length ≤ gens.length ∧ (∀ i ∈ free, i < gens.length) ∧
 ∃ pv rv, blk w b = some (.cells #[pv, rv] 307) ∧ Own w pv 2 (gens.flatMap genC) ∧ Own w rv 1 (free.map natV) ∧ (∀ k, vblk pv k → o k = some .places) ∧ (∀ k, vblk rv k → o k = some .row)
theorem RollAt.frame {o o' : Lab} {w w' : World} {b : Nat} {gens : List (Int × Bool)} {free : List Nat} (h : RollAt o w b gens free) {fp : Nat → Prop} (hm : Mod fp w w') (hf : ∀ k t, o k = some t → rollTag t → ¬ fp k) (ho : LabEq w o o') : RollAt o' w' b gens free := by
 obtain ⟨h1, h2, h3, h4, pv, rv, hb, hp, hr, hpl, hrl⟩ := h
 refine ⟨by rw [ho b (lt_of_blk hb)]; exact h1, h2, h3, h4, pv, rv, hm.get hb (hf b _ h1 (.inl rfl)), hp.mod hm fun k hk => hf k _ (hpl k hk) (.inr (.inl rfl)), hr.mod hm fun k hk => hf k _ (hrl k hk) (.inr (.inr rfl)), fun k hk => ?_, fun k hk => ?_⟩
 ·rw [ho k (hp.vblk_lt hk)]; exact hpl k hk
 ·rw [ho k (hr.vblk_lt hk)]; exact hrl k hk
theorem RollAt.same {o : Lab} {w w' : World} {b : Nat} {gens : List (Int × Bool)} {free : List Nat} (h : RollAt o w b gens free) (hm : Same w w') : RollAt o w' b gens free := h.frame hm (fun _ _ _ _ h => h) (LabEq.refl _ _)
def aliveF (gens : List (Int × Bool)) (idx gen : Int) : Bool := decide (0 ≤ idx) && match gens[idx.toNat]? with
 | some (g, b) => b && decide (g = gen)
 | none => false
def entV (idx gen : Int) : Value := .agg #[.int .i64 idx, .int .i64 gen]
theorem rAlive_spec {o : Lab} {w : World} {b : Nat} {gens : List (Int × Bool)} {free : List Nat} (h : RollAt o w b gens free) (idx gen : Int) :
  Meets Tryz.prog 191 #[.pointer (some ⟨b, 0, none⟩), entV idx gen] w fun v w' => v = .bool (aliveF gens idx gen) ∧ Same w w' := by
 obtain ⟨h1, h2, h3, h4, pv, rv, hb, hp, hr, hpl, hrl⟩ := h
 have hpi := hp.is
 obtain ⟨pa, pn, pc, rfl, hps, _⟩ := hpi
 have hpn : pn = gens.length := by
  have := hps.1
  rw [flat_len genC 2 (fun _ => rfl)] at this
  omega
 subst hpn
 refine f191_ok ?_
 unfold f191
 refine knew_of fun w2 hm2 hs2 hb2 => ?_
 have hb2 : blk w2.drew w.heap.size = some (.cells #[.int .i64 idx, .int .i64 gen] 176) := hb2
 have m2 := hm2.drew
 generalize w2.drew = wa at *
 rw [keq_ptr_nil ptRoll]
 have hba := m2.get hb (fun h => h)
 refine kG_of rfl ?_
 refine kB_at ?_
 refine kIf_T rfl ?_
 refine kfld_of ?_
 refine kld_at hb2 rfl ?_
 refine kG_of rfl ?_
 refine lss_at ?_
 refine kB_at ?_
 unfold aliveF
 by_cases hi : idx < 0
 ·refine kIf_F (notF (decT hi)) ?_
  unfold f191_0
  refine kB_at ?_
  refine kIf_T rfl ?_
  rw [decF (show ¬ 0 ≤ idx by omega)]
  exact ⟨rfl, m2⟩
 refine kIf_T (notT (decF hi)) ?_
 rw [decT (show 0 ≤ idx by omega), Bool.true_and]
 refine kfld_of ?_
 refine kld_at hb2 rfl ?_
 refine kG_of rfl ?_
 refine kN_at ?_
 refine kfld_of ?_
 refine kld_at hba rfl ?_
 refine kG_of rfl ?_
 refine klen_at ?_
 refine geq_at ?_
 refine kB_at ?_
 by_cases hn : (gens.length : Int) ≤ idx
 ·refine kIf_T (decT hn) ?_
  rw [List.getElem?_eq_none (by omega)]
  exact ⟨rfl, m2⟩
 refine kIf_F (decF hn) ?_
 have hlt : idx.toNat < gens.length := by omega
 obtain ⟨bc, cp, arr, t, e, hbc, q1, q2, q3⟩ := (hp.same m2).viewF (F := genC) (sz := 2) (fun _ => rfl) (by omega) (show 0 < gens.length by omega)
 cases e
 have hbc : blk wa.drew bc = _ := hbc
 have hba : blk wa.drew b = _ := hba
 have hb2 : blk wa.drew w.heap.size = _ := hb2
 have m2 := m2.drew
 unfold f191_1
 generalize wa.drew = wb at *
 refine kN_at ?_
 refine kfld_of ?_
 refine kld_at hba rfl ?_
 refine kG_of rfl ?_
 refine kfld_of ?_
 refine kld_at hb2 rfl ?_
 refine kG_of rfl ?_
 rw [kix_slice]
 refine kG_of (by omega) ?_
 rw [add_mk, Nat.zero_add]
 have q4 := q3 _ hlt
 rw [List.getElem?_eq_getElem hlt]
 generalize gens[idx.toNat] = ga at *
 obtain ⟨g, al⟩ := ga
 refine kldN_at hbc q4 (by omega) ?_
 refine kG_of rfl ?_
 refine knew_of fun w24 h24 hs24 hb24 => ?_
 refine kG_of (kldN_at (h24.get hbc (fun h => h)) q4 (by omega) ⟨rfl, rfl⟩) ?_
 refine kG_of (kld_at (h24.get hb2 (fun h => h)) rfl ⟨rfl, rfl⟩) ?_
 refine kG_of (kld_at (h24.get hba (fun h => h)) rfl ⟨rfl, rfl⟩) ?_
 refine kst_of (vs := genC (g, al)) hb24 rfl rfl rfl (by simp) (by simp [genC]) fun w25 h25 hs25 hb25 => ?_
 have hb25 : blk w25 wb.heap.size = some (.cells #[nV g, .bool al] 344) := hb25
 have m25 : Same w w25 := m2.trans (Mod.after h24 h25 (fun b hb => by omega))
 have hsb := m2.size
 have hlb := lt_of_blk hb2
 have hb2' := h25.get (h24.get hb2 (fun h => h)) (by omega)
 refine kfld_of ?_
 refine kld_at hb25 rfl ?_
 refine kB_at ?_
 cases al with
 | false => exact kIf_F rfl ⟨rfl, m25⟩
 | true =>
  refine kIf_T rfl ?_
  refine kfld_of ?_
  refine kld_at hb25 rfl ?_
  refine kfld_of ?_
  refine kld_at hb2' rfl ?_
  refine eql_at ?_
  exact ⟨by simp, m25⟩
theorem rTake_spec {o : Lab} {w : World} {b : Nat} {gens : List (Int × Bool)} {free : List Nat} (h : RollAt o w b gens free) {L : Nat} (hL : L + 1 = free.length) {i : Nat} (hi : free[L]'(by omega) = i) (hlt : i < gens.length) (hg : 0 ≤ (gens[i]'hlt).1 ∧ (gens[i]'hlt).1 ≤ 1000000) :
  Meets Tryz.prog 127 #[.pointer (some ⟨b, 0, none⟩)] w fun v w' =>
   v = .tuple #[entV i ((gens[i]'hlt).1 + 1), .nilIface] ∧ RollAt o w' b (gens.set i ((gens[i]'hlt).1 + 1, true)) (free.take L) ∧ Mod (FP o rollTag) w w' := by
 obtain ⟨h1, h2, h3, h4, pv, rv, hb, hp, hr, hpl, hrl⟩ := h
 obtain ⟨bp, cp, arr, t, rfl, hbp, p1, p2, p3⟩ := hp.viewF (F := genC) (sz := 2) (fun _ => rfl) (by omega) (show 0 < gens.length by omega)
 obtain ⟨ra, rn, rc, rfl, hrs, hrn⟩ := hr.is
 have hrn : rn = free.length := by simpa using hrn rfl
 subst hrn
 have hr0 := hr
 obtain ⟨br, cr, arr2, t2, e, hbr, r1, r2, r3⟩ := hr.viewM (by omega)
 cases e
 have hpb := hpl bp ⟨_, _, _, rfl⟩
 have hrb := hrl br ⟨_, _, _, rfl⟩
 have npb : bp ≠ b := fun e => by rw [e, h1] at hpb; cases hpb
 have nrb : br ≠ b := fun e => by rw [e, h1] at hrb; cases hrb
 have npr : bp ≠ br := fun e => by rw [e, hrb] at hpb; cases hpb
 have lb := lt_of_blk hb
 have lbp := lt_of_blk hbp
 have lbr := lt_of_blk hbr
 refine f127_ok ?_
 unfold f127
 refine knew_of fun w2 hm2 hs2 hb2 => ?_
 rw [keq_ptr_nil ptRoll]
 have hb2b := hm2.get hb (fun h => h)
 refine kB_at ?_
 refine kIf_F rfl ?_
 refine kN_at ?_
 refine kfld_of ?_
 refine kld_at hb2b rfl ?_
 refine klen_at ?_
 refine sub_at (by omega) (by omega) ?_
 refine lss_at ?_
 refine kB_at ?_
 refine kIf_F (decF (by omega)) ?_
 refine kN_at ?_
 refine kfld_of ?_
 refine kld_at hb2b rfl ?_
 rw [show ((free.length : Int) - 1) = ((L : Nat) : Int) by omega]
 refine kixld_of (F := natV) (hrs.same hm2) (show L < free.length by omega) rfl ?_
 rw [hi]
 refine kN_at ?_
 refine kfld_of ?_
 refine kld_at hb2b rfl ?_
 refine ksl_sl_hi (by omega) ?_
 refine kN_at ?_
 refine kfld_of ?_
 refine kst1_of hb2b rfl rfl (by simp) fun w31 h31 hs31 hb31 => ?_
 simp only [List.setIfInBounds_toArray, List.set_cons_succ, List.set_cons_zero] at hb31
 refine kN_at ?_
 refine kfld_of ?_
 refine kld_at hb31 rfl ?_
 rw [natV, kix_slice]
 refine kG_of (by omega) ?_
 rw [add_mk, Nat.zero_add, Int.toNat_natCast]
 have hbp31 := h31.get (hm2.get hbp (fun h => h)) npb
 have hseg := p3 i hlt
 have hgen : arr[i * 2]? = some (nV (gens[i]'hlt).1) := by
  obtain ⟨g1, g2⟩ := segL_spec _ _ _ _ hseg
  have := congrArg (fun l : List Value => l[0]?) g2
  simpa [genC, List.getElem?_take, List.getElem?_drop] using this
 have hseg' := (segL_spec _ _ _ _ hseg).1
 rw [Array.length_toList] at hseg'
 refine kN_at ?_
 refine kfld_of ?_
 refine kld_of (v := nV (gens[i]'hlt).1) hbp31 hgen ?_
 refine add_at (by omega) (by omega) ?_
 refine kN_at ?_
 refine kfld_of ?_
 refine kst_of (vs := [nV ((gens[i]'hlt).1 + 1)]) hbp31 rfl rfl rfl (by simp; omega) (by simp) fun w39 h39 hs39 hb39 => ?_
 refine kN_at ?_
 refine kfld_of ?_
 refine kst_of (vs := [.bool true]) hb39 rfl rfl rfl (by rw [setAll_size]; omega) (by simp) fun w41 h41 hs41 hb41 => ?_
 have hb41 : blk w41 bp = some (.cells (setAll (genC ((gens[i]'hlt).1 + 1, true)) arr (i * 2)) t) := hb41
 refine kN_at ?_
 refine kfld_of ?_
 refine kld_of (v := nV ((gens[i]'hlt).1 + 1)) hb41 ?_ ?_
 ·have e := setAll_list (genC ((gens[i]'hlt).1 + 1, true)) arr (i * 2) (by simp [genC]; omega)
  have hl : (arr.toList.take (i * 2)).length = i * 2 := by rw [List.length_take, Array.length_toList]; omega
  rw [← Array.getElem?_toList, e, List.append_assoc, List.getElem?_append_right (by rw [hl]; omega), hl]
  simp [genC]
 refine kbld_of (cs := [.int .i64 i, .int .i64 ((gens[i]'hlt).1 + 1)]) rfl ?_
 have hz := h41.get (h39.get (h31.get hb2 (by omega)) (by omega)) (by omega)
 refine kst_of (vs := [.int .i64 i, .int .i64 ((gens[i]'hlt).1 + 1)]) hz rfl rfl rfl (by simp) (by simp) fun w45 h45 hs45 hb45 => ?_
 have hb45 : blk w45 w.heap.size = some (.cells #[.int .i64 i, .int .i64 ((gens[i]'hlt).1 + 1)] 176) := hb45
 refine kldN_at hb45 rfl (by omega) ?_
 have hbF := h45.get (h41.get (h39.get hb31 npb.symm) npb.symm) (by omega)
 have hpF := h45.get hb41 (by omega)
 have hm : Mod (fun k => k = b ∨ k = bp) w w45 := by
  have a1 : Mod (fun k => k = b ∨ k = bp) w w41 := (Mod.of_same hm2).trans ((h31.mono fun k _ e => .inl e).trans ((h39.mono fun k _ e => .inr e).trans (h41.mono fun k _ e => .inr e)))
  exact a1.trans' (h45.mono fun k _ e => .inr (by omega))
 refine ⟨rfl, ⟨h1, by simpa using h2, by simp; omega, fun j hj => by simpa using h4 j (List.mem_of_mem_take hj), _, _, hbF, ?_, ?_, ?_, ?_⟩, hm.mono fun k _ e => ?_⟩
 ·have := Own.setF (F := genC) (fun _ => rfl) hp hbp (x := ((gens[i]'hlt).1 + 1, true)) (i := i) hpF hlt
  simpa using this
 ·rw [List.map_take]
  have e1 := (hr0.mod hm fun k hk e => by
   rcases e with rfl | rfl
   ·have := hrl _ hk; rw [h1] at this; cases this
   ·have := hrl _ hk; rw [hpb] at this; cases this).cutN (k := L) (by omega)
  rw [Nat.mul_one] at e1
  exact e1
 ·rintro k ⟨_, _, _, e⟩; cases e; exact hpb
 ·rintro k ⟨_, _, _, e⟩; cases e; exact hrb
 ·rcases e with rfl | rfl
  ·exact ⟨_, h1, .inl rfl⟩
  ·exact ⟨_, hpb, .inr (.inl rfl)⟩
end
section
attribute [local irreducible] kO kB kStr kInt kN kG kIf kfld kld kldN kst knew kmap kbld kbldS kext kcnv klenStr klen kcap kprt kprtN kbool kint kstr keq kun ksl kix kiv kta kmk kmm ksem ksemU kextf kcallV kcallM kcall kL
theorem kmk_of {z : Value} {n l : Nat} {ty : TypeId} {w : World} {K : Value → World → Prop} (h1 : l ≤ 9223372036854775807) (h2 : n * l ≤ 281474976710656)
  (h : ∀ w2, Same w w2 → w2.heap.size = w.heap.size + 1 → blk w2 w.heap.size = some (.cells (zrow z.cells.toList l).toArray ty) → K (.slice (some ⟨w.heap.size, 0, none⟩) l l) w2) : kmk z n ty (.int .i64 l) (.int .i64 l) w K := by
 rw [kmk_eq]
 have h2' : ((n : Int) * (l : Int)) ≤ 281474976710656 := by
  rw [← Int.natCast_mul]; omega
 refine kG_of ⟨by omega, by omega, by omega, h2'⟩ ?_
 rw [Int.toNat_natCast]
 exact h _ ((Mod.refl _ _).alloc _) (by simp) (alloc_heap_new _ _)
theorem zrow_rep {α : Type} {F : α → List Value} (x : α) : ∀ n, zrow (F x) n = (List.replicate n x).flatMap F
 | 0 => rfl
 | n + 1 => by rw [zrow, zrow_rep x n, List.replicate_succ, List.flatMap_cons]
theorem reverse_spec {w : World} {v : Value} {L : List Nat} (hO : Own w v 1 (L.map natV)) (hl : L.length ≤ 1000000) :
  Meets Tryz.prog 171 #[v] w fun r w' => Own w' v 1 (L.reverse.map natV) ∧ Mod (vblk v) w w' ∧ w'.heap.size = w.heap.size := by
 obtain ⟨va, vn, vc, rfl, hs, hvn⟩ := hO.is
 have hvn : vn = L.length := by simpa using hvn rfl
 subst hvn
 refine f171_ok ?_
 unfold f171
 refine klen_at ?_
 refine sub_at (by omega) (by omega) ?_
 refine kL2_of L.length (fun i x y wr => x = .int .i64 i ∧ y = .int .i64 ((L.length : Int) - 1 - i) ∧ 2 * i ≤ L.length + 1 ∧ Mod (vblk (.slice va L.length vc)) w wr ∧ wr.heap.size = w.heap.size ∧ ∃ cur : List Nat, cur.length = L.length ∧ Own wr (.slice va L.length vc) 1 (cur.map natV) ∧ ∀ k, k < L.length → cur[k]? = if k < i ∨ L.length < k + i + 1 then L[L.length - 1 - k]? else L[k]?)
  ⟨lI2_0 ⟨rfl, by simp, by omega, Mod.refl _ _, rfl, L, rfl, hO, fun k hk => by rw [if_neg (by omega)]⟩, fun x y wr hx => ?_⟩
 obtain ⟨i, hi, ⟨rfl, rfl, h2i, hm, hsz, cur, hcl, hOc, hcur⟩, hJ⟩ := lI2_step hx
 unfold f171_0
 refine lss_at ?_
 refine kB_at ?_
 refine kIf_dec (fun hlt => ?_) (fun hge => ?_)
 ·obtain ⟨j, hj⟩ : ∃ j, j + i + 1 = L.length := ⟨L.length - 1 - i, by omega⟩
  rw [show ((L.length : Int) - 1 - i) = ((j : Nat) : Int) by omega] at *
  obtain ⟨bc, cp, arr, t, e, hb, q1, q2, q3⟩ := hOc.viewM (by omega)
  rw [hcl] at e
  cases e
  unfold f171_1
  have hb : blk wr.drew bc = _ := hb
  have hmd := hm.drew
  have hszd : wr.drew.heap.size = w.heap.size := hsz
  have hOc : Own wr.drew _ _ _ := hOc.same ((Mod.refl _ _).drew)
  generalize wr.drew = wa at *
  rw [kix_slice]
  refine kG_of (by omega) ?_
  rw [add_mk, Nat.zero_add, Int.toNat_natCast, Nat.mul_one]
  refine kld_of hb (q3 j (by omega)) ?_
  refine kG_of rfl ?_
  rw [kix_slice]
  refine kG_of (by omega) ?_
  rw [add_mk, Nat.zero_add, Int.toNat_natCast, Nat.mul_one]
  refine kld_of hb (q3 i (by omega)) ?_
  refine kG_of rfl ?_
  rw [kix_slice]
  refine kG_of (by omega) ?_
  rw [add_mk, Nat.zero_add, Int.toNat_natCast, Nat.mul_one]
  refine kst_of (vs := [natV cur[j]]) hb rfl rfl rfl (by omega) (by simp) fun w10 h10 hs10 hb10 => ?_
  rw [kix_slice]
  refine kG_of (by omega) ?_
  rw [add_mk, Nat.zero_add, Int.toNat_natCast, Nat.mul_one]
  refine kst_of (vs := [natV cur[i]]) hb10 rfl rfl rfl (by rw [setAll_size]; omega) (by simp) fun w12 h12 hs12 hb12 => ?_
  refine add_at (by omega) (by omega) ?_
  refine sub_at (by omega) (by omega) ?_
  have o1 := hOc.set1 (v := natV cur[j]) hb hb10 (by simp; omega)
  have o2 := o1.set1 (v := natV cur[i]) hb10 hb12 (by simp; omega)
  rw [cast_succ, show ((j : Int) - 1) = (L.length : Int) - 1 - ((i + 1 : Nat) : Int) by omega]
  refine hJ _ _ _ (by omega) ⟨rfl, rfl, by omega, hmd.trans ((h10.trans h12).mono fun k _ e => by subst e; exact ⟨_, _, _, rfl⟩), by omega, (cur.set i cur[j]).set j cur[i], by simp [hcl], ?_, fun k hk => ?_⟩
  ·rw [List.map_set, List.map_set]; exact o2
  ·rw [List.getElem?_set, List.getElem?_set]
   have cj := hcur j (by omega)
   have ci := hcur i (by omega)
   rw [if_neg (by omega), List.getElem?_eq_getElem (by omega), List.getElem?_eq_getElem (by omega)] at cj ci
   simp only [Option.some.injEq] at cj ci
   have hck := hcur k hk
   by_cases h1 : j = k
   ·subst h1
    rw [if_pos rfl, if_pos (by simp; omega), if_pos (by omega), show L.length - 1 - j = i by omega, ci, List.getElem?_eq_getElem (by omega)]
   ·rw [if_neg h1]
    by_cases h3 : i = k
    ·subst h3
     rw [if_pos rfl, if_pos (by omega), if_pos (by omega), show L.length - 1 - i = j by omega, cj, List.getElem?_eq_getElem (by omega)]
    ·rw [if_neg h3, hck]
     by_cases h4 : k < i ∨ L.length < k + i + 1
     ·rw [if_pos h4, if_pos (by omega)]
     ·rw [if_neg h4, if_neg (by omega)]
 ·refine ⟨?_, hm, hsz⟩
  have : cur = L.reverse := by
   apply List.ext_getElem?
   intro k
   by_cases hk : k < L.length
   ·rw [hcur k hk, List.getElem?_reverse hk]
    by_cases h4 : k < i ∨ L.length < k + i + 1
    ·rw [if_pos h4]
    ·rw [if_neg h4, show L.length - 1 - k = k by omega]
   ·rw [List.getElem?_eq_none (by omega), List.getElem?_eq_none (by simp; omega)]
  rw [← this]; exact hOc
def rollLab (o : Lab) (n0 n1 k : Nat) : Option Tag := if k < n0 then o k else if k = n0 then some .places else if k = n1 then some .roll else some .row
theorem rNew_spec (o : Lab) (w : World) (most : Nat) (h : most ≤ 64) : Meets Tryz.prog 116 #[.int .i64 most] w fun v w' =>
  ∃ b o', v = .tuple #[.pointer (some ⟨b, 0, none⟩), .nilIface] ∧ LabEq w o o' ∧ RollAt o' w' b (List.replicate most (0, false)) (List.range most).reverse ∧ Same w w' ∧ (∀ k, w.heap.size ≤ k → ∃ t, o' k = some t ∧ rollTag t) ∧ w.heap.size ≤ b := by
 refine f116_ok ?_
 unfold f116
 refine lss_at ?_
 refine kB_at ?_
 refine kIf_T rfl ?_
 refine gtr_at ?_
 refine kB_at ?_
 refine kIf_F (decF (by omega)) ?_
 unfold f116_1
 refine kmk_of (by omega) (by omega) fun w8 h8 hs8 hb8 => ?_
 have hz : zrow (Value.agg #[.int .i64 0, .bool false]).cells.toList most = (List.replicate most ((0 : Int), false)).flatMap genC := zrow_rep (F := genC) ((0 : Int), false) most
 rw [hz] at hb8
 refine kbld_of (cs := [.slice (some ⟨w.heap.size, 0, none⟩) most most, .slice none 0 0]) rfl ?_
 refine knew_of fun w11 h11 hs11 hb11 => ?_
 have hb11 : blk w11 w8.heap.size = some (.cells #[.slice (some ⟨w.heap.size, 0, none⟩) most most, .slice none 0 0] 307) := hb11
 have hp11 := h11.get hb8 (fun h => h)
 have nv : ∀ k, ¬ vblk (.slice none 0 0) k := by
  rintro k ⟨_, _, _, e⟩; cases e
 refine kL1_of most (fun i x wr => x = .int .i64 i ∧ ∃ rv, blk wr w8.heap.size = some (.cells #[.slice (some ⟨w.heap.size, 0, none⟩) most most, rv] 307) ∧ Own wr rv 1 ((List.range i).map natV) ∧ (∀ k, vblk rv k → w11.heap.size ≤ k) ∧ Mod (fun k => k = w8.heap.size ∨ w11.heap.size ≤ k) w11 wr)
  ⟨lI1_0 ⟨rfl, _, hb11, Own.nil _ _, fun k hk => absurd hk (nv k), Mod.refl _ _⟩, fun x wr hx => ?_⟩
 obtain ⟨i, hi, ⟨rfl, rv, hb, hO, hf, hm⟩, hJ⟩ := lI1_step hx
 unfold f116_2
 refine lss_at ?_
 refine kB_at ?_
 refine kIf_dec (fun hlt => ?_) (fun hge => ?_)
 ·refine kN_at ?_
  refine kfld_of ?_
  refine kld_at hb rfl ?_
  refine kbldS_of (cs := [natV i]) rfl fun w16 h16 hs16 hb16 => ?_
  refine ksem_append apInt (by omega) (hO.same h16) (Src.ofSlIs (hk := slInt_is.choose_spec) 1 (SlIs.blk hb16 rfl) rfl) (by simp; omega) (by simp; omega) ?_
  intro v' w18 ho18 hm18 hf18
  have hlb := lt_of_blk hb
  have hb18 := hm18.get (h16.get hb (fun h => h)) (fun e => by have := hf _ e; omega)
  obtain ⟨a', n', c', rfl, _⟩ := ho18.is
  have hsm := hm.size
  have hs16' := h16.size
  have hf' : ∀ k, vblk (.slice a' n' c') k → w11.heap.size ≤ k := fun k hk => by
   rcases hf18 k hk with h | h
   ·exact hf k h
   ·omega
  refine kN_at ?_
  refine kfld_of ?_
  refine kst1_of hb18 rfl rfl (by simp) fun w20 h20 hs20 hb20 => ?_
  simp only [List.setIfInBounds_toArray, List.set_cons_succ, List.set_cons_zero] at hb20
  refine add_at (by omega) (by omega) ?_
  rw [cast_succ]
  refine hJ _ _ (by omega) ⟨rfl, _, hb20, ?_, hf', ?_⟩
  ·rw [List.range_succ, List.map_append]
   exact ho18.mod h20 fun k hk e => by have := hf' k hk; omega
  ·exact hm.trans ((Mod.of_same h16).trans ((hm18.mono fun k _ e => .inr (hf k e)).trans (h20.mono fun k _ e => .inl e)))
 ·have : i = most := by omega
  subst this
  unfold f116_5
  refine kN_at ?_
  refine kfld_of ?_
  refine kld_at hb rfl ?_
  refine kcall_of (reverse_spec hO (by simp; omega)) ?_
  rintro v w25 ⟨hr, hmr, hsr⟩
  have hlb := lt_of_blk hb
  have hbF := hmr.get hb (fun e => by have := hf _ e; omega)
  have hm25 : Mod (fun k => k = w8.heap.size ∨ w11.heap.size ≤ k) w11 w25 := hm.trans (hmr.mono fun k _ e => .inr (hf k e))
  have hpF := hm25.get hp11 (by omega)
  refine ⟨_, rollLab o w.heap.size w8.heap.size, rfl, fun k hk => by unfold rollLab; rw [if_pos hk], ⟨?_, by simpa using h, by simp, fun j hj => by simpa using hj, _, rv, hbF, ?_, hr, ?_, ?_⟩, ?_, ?_, by omega⟩
  ·unfold rollLab; rw [if_neg (by omega), if_neg (by omega), if_pos rfl]
  ·exact Own.blk hpF (by simp [flat_len genC 2 (fun _ => rfl)]) (by simp [maxLen]; omega)
  ·rintro k ⟨_, _, _, e⟩
   cases e
   unfold rollLab; rw [if_neg (by omega), if_pos rfl]
  ·intro k hk
   have := hf k hk
   unfold rollLab; rw [if_neg (by omega), if_neg (by omega), if_neg (by omega)]
  ·exact (h8.trans h11).trans' (hm25.mono fun k _ e => .inr (by rcases e with e | e <;> omega))
  ·intro k hk
   unfold rollLab
   rw [if_neg (by omega)]
   by_cases e1 : k = w.heap.size
   ·rw [if_pos e1]; exact ⟨_, rfl, .inr (.inl rfl)⟩
   ·rw [if_neg e1]
    by_cases e2 : k = w8.heap.size
    ·rw [if_pos e2]; exact ⟨_, rfl, .inl rfl⟩
    ·rw [if_neg e2]; exact ⟨_, rfl, .inr (.inr rfl)⟩
end
section
def f117_1 (x0 : Value) (Q : PQ) (w : World) : Prop :=
 kmap w fun v7 w8 =>
 kbld [.int .i64 0, .slice none 0 0, .map none] [(0, 1, x0), (2, 1, v7)] fun v9 =>
 knew (Value.cells v9) 312 w8 fun v10 w11 =>
 kcall Tryz.prog 173 #[v10, .int .u32 0] w11 fun v12 w13 =>
 Q (.tuple #[v10, .nilIface]) w13
def f117_0 (x0 x10 : Value) (Q : PQ) (w : World) : Prop :=
 kB x10 fun b14 => kIf b14
 (kld (.pointer (some ⟨2, 0, none⟩)) w fun v4 =>
 kcall Tryz.prog 172 #[v4] w fun v5 w6 =>
 Q (.tuple #[.pointer none, v5]) w6)
 (f117_1 x0 Q w)
def f117 (x0 : Value) (Q : PQ) (w : World) : Prop :=
 kint .i64 .lss x0 (.int .i64 0) fun v1 =>
 kB v1 fun b2 => kIf (!b2)
 (kint .i64 .gtr x0 (.int .i64 16) fun v3 =>
 f117_0 x0 v3 Q w)
 (f117_0 x0 (.bool true) Q w)
theorem f117_ok {x0 : Value} {Q : PQ} {w : World} (h : f117 x0 Q w) : Meets Tryz.prog 117 #[x0] w Q :=
 sound' (c := Tryz.f117.body.get rfl) [] Tryz.func117 rfl rfl (args := [x0]) rfl (by kernel_rfl) h
def f173_2 (x0 x1 x5 x11 : Value) (J3 : Value → World → Prop) (Q : PQ) (w : World) : Prop :=
 kint .i64 .add x11 (.int .i64 1) fun v11 =>
 J3 v11 w
def f173_1 (x0 x1 x5 x11 : Value) (J3 : Value → World → Prop) (Q : PQ) (w : World) : Prop :=
 kN x5 <|
 kfld 1 x5 fun v5 =>
 kix (some (.array 16 3)) (some 1) v5 x11 fun v6 =>
 kst 1 v6 (.int .i64 (-1)) w.drew fun w7 =>
 kN x5 <|
 kfld 17 x5 fun v8 =>
 kix (some (.array 16 3)) (some 1) v8 x11 fun v9 =>
 kst 1 v9 (.int .i64 (-1)) w7 fun w10 =>
 f173_2 x0 x1 x5 x11 J3 Q w10
def f173_3 (x0 x1 x5 : Value) (Q : PQ) (w : World) : Prop :=
 kN x0 <|
 kfld 1 x0 fun v12 =>
 kld v12 w fun v13 =>
 klen v13 fun v14 =>
 kN x0 <|
 kfld 1 x0 fun v16 =>
 kld v16 w fun v17 =>
 kbldS [.pointer none] 1 [(0, 1, x5)] 375 w fun v18 w19 =>
 ksem Tryz.prog (Builtin.append_ #[310, 310] 0 #[v17, v18]) w19 fun v20 w21 =>
 kN x0 <|
 kfld 1 x0 fun v22 =>
 kst 1 v22 v20 w21 fun w23 =>
 kN x0 <|
 kfld 2 x0 fun v24 =>
 kld v24 w23 fun v25 =>
 ksemU Tryz.prog (Instr.mapUpdate 309 v25 x1 v14) w23 fun _ w27 =>
 Q v14 w27
def f173_0 (x11 x0 x1 x5 : Value) (J3 : Value → World → Prop) (Q : PQ) (w : World) : Prop :=
 kint .i64 .lss x11 (.int .i64 16) fun v4 =>
 kB v4 fun b28 => kIf b28
 (f173_1 x0 x1 x5 x11 J3 Q w)
 (f173_3 x0 x1 x5 Q w)
def f173 (x0 x1 : Value) (Q : PQ) (w : World) : Prop :=
 kbld [.int .u32 0, .int .i64 0, .int .i64 0, .int .i64 0, .int .i64 0, .int .i64 0, .int .i64 0, .int .i64 0, .int .i64 0, .int .i64 0, .int .i64 0, .int .i64 0, .int .i64 0, .int .i64 0, .int .i64 0, .int .i64 0, .int .i64 0, .int .i64 0, .int .i64 0, .int .i64 0, .int .i64 0, .int .i64 0, .int .i64 0, .int .i64 0, .int .i64 0, .int .i64 0, .int .i64 0, .int .i64 0, .int .i64 0, .int .i64 0, .int .i64 0, .int .i64 0, .int .i64 0] [(0, 1, x1)] fun v1 =>
 knew (Value.cells v1) 378 w fun v2 w3 =>
 kL fun (I : Value → World → Prop) (μ : Value → World → Nat) => I (.int .i64 0) w3 ∧ ∀ (x11 : Value) (w1 : World), I x11 w1 →
 f173_0 x11 x0 x1 v2 (fun y11 w2 => I y11 w2 ∧ μ y11 w2 < μ x11 w1) Q w1
theorem f173_ok {x0 x1 : Value} {Q : PQ} {w : World} (h : f173 x0 x1 Q w) : Meets Tryz.prog 173 #[x0, x1] w Q :=
 sound' (c := Tryz.f173.body.get rfl) [(3, [11])] Tryz.func173 rfl rfl (args := [x0, x1]) rfl (by kernel_rfl) h
def f128_1 (x0 x1 : Value) (Q : PQ) (w : World) : Prop :=
 kcall Tryz.prog 173 #[x0, x1] w fun v19 w20 =>
 Q (.tuple #[v19, .nilIface]) w20
def f128_0 (x0 x1 : Value) (Q : PQ) (w : World) : Prop :=
 kN x0 <|
 kfld 2 x0 fun v13 =>
 kld v13 w fun v14 =>
 ksem Tryz.prog (Instr.lookup 309 v14 x1 true) w fun v15 w16 =>
 kext v15 0 fun v17 =>
 kext v15 1 fun v18 =>
 kB v18 fun b21 => kIf b21
 (Q (.tuple #[v17, .nilIface]) w16)
 (f128_1 x0 x1 Q w16)
def f128 (x0 x1 : Value) (Q : PQ) (w : World) : Prop :=
 keq Tryz.prog .eql 237 false true x0 (.pointer none) w fun v1 w2 =>
 kB v1 fun b23 => kIf b23
 (kld (.pointer (some ⟨4, 0, none⟩)) w2 fun v3 =>
 kcall Tryz.prog 172 #[v3] w2 fun v4 w5 =>
 Q (.tuple #[.int .i64 0, v4]) w5)
 (kN x0 <|
 kfld 0 x0 fun v6 =>
 kld v6 w2 fun v7 =>
 kint .u32 .shr x1 v7 fun v8 =>
 kint .u32 .neq v8 (.int .u32 0) fun v9 =>
 kB v9 fun b22 => kIf b22
 (kld (.pointer (some ⟨2, 0, none⟩)) w2 fun v10 =>
 kcall Tryz.prog 172 #[v10] w2 fun v11 w12 =>
 Q (.tuple #[.int .i64 0, v11]) w12)
 (f128_0 x0 x1 Q w2))
theorem f128_ok {x0 x1 : Value} {Q : PQ} {w : World} (h : f128 x0 x1 Q w) : Meets Tryz.prog 128 #[x0, x1] w Q :=
 sound' (c := Tryz.f128.body.get rfl) [] Tryz.func128 rfl rfl (args := [x0, x1]) rfl (by kernel_rfl) h
def f210_1 (x0 x1 : Value) (Q : PQ) (w : World) : Prop :=
 kN x0 <|
 kfld 1 x0 fun v16 =>
 kld v16 w fun v17 =>
 kix (some (.slice 375)) (some 1) v17 x1 fun v18 =>
 kld v18 w fun v19 =>
 Q (.tuple #[v19, .nilIface]) w
def f210_0 (x0 x1 x11 : Value) (Q : PQ) (w : World) : Prop :=
 kB x11 fun b20 => kIf b20
 (kld (.pointer (some ⟨12, 0, none⟩)) w fun v13 =>
 kcall Tryz.prog 172 #[v13] w fun v14 w15 =>
 Q (.tuple #[.pointer none, v14]) w15)
 (f210_1 x0 x1 Q w)
def f210 (x0 x1 : Value) (Q : PQ) (w : World) : Prop :=
 keq Tryz.prog .eql 237 false true x0 (.pointer none) w fun v1 w2 =>
 kB v1 fun b21 => kIf b21
 (kld (.pointer (some ⟨4, 0, none⟩)) w2 fun v3 =>
 kcall Tryz.prog 172 #[v3] w2 fun v4 w5 =>
 Q (.tuple #[.pointer none, v4]) w5)
 (kint .i64 .lss x1 (.int .i64 0) fun v6 =>
 kB v6 fun b7 => kIf (!b7)
 (kN x0 <|
 kfld 1 x0 fun v8 =>
 kld v8 w2 fun v9 =>
 klen v9 fun v10 =>
 kint .i64 .geq x1 v10 fun v12 =>
 f210_0 x0 x1 v12 Q w2)
 (f210_0 x0 x1 (.bool true) Q w2))
theorem f210_ok {x0 x1 : Value} {Q : PQ} {w : World} (h : f210 x0 x1 Q w) : Meets Tryz.prog 210 #[x0, x1] w Q :=
 sound' (c := Tryz.f210.body.get rfl) [] Tryz.func210 rfl rfl (args := [x0, x1]) rfl (by kernel_rfl) h
def f175_0 (x6 : Value) (Q : PQ) (w : World) : Prop :=
 kN x6 <|
 kfld 0 x6 fun v7 =>
 kld v7 w fun v8 =>
 Q (.tuple #[v8, .nilIface]) w
def f175 (x0 x1 : Value) (Q : PQ) (w : World) : Prop :=
 kcall Tryz.prog 210 #[x0, x1] w fun v1 w2 =>
 kext v1 0 fun v3 =>
 kext v1 1 fun v4 =>
 keq Tryz.prog .neq 33 false true v4 .nilIface w2 fun v5 w6 =>
 kB v5 fun b9 => kIf b9
 (Q (.tuple #[.int .u32 0, v4]) w6)
 (f175_0 v3 Q w6)
theorem f175_ok {x0 x1 : Value} {Q : PQ} {w : World} (h : f175 x0 x1 Q w) : Meets Tryz.prog 175 #[x0, x1] w Q :=
 sound' (c := Tryz.f175.body.get rfl) [] Tryz.func175 rfl rfl (args := [x0, x1]) rfl (by kernel_rfl) h
def f174_0 (x0 : Value) (Q : PQ) (w : World) : Prop :=
 kN x0 <|
 kfld 1 x0 fun v3 =>
 kld v3 w fun v4 =>
 klen v4 fun v5 =>
 Q v5 w
def f174 (x0 : Value) (Q : PQ) (w : World) : Prop :=
 keq Tryz.prog .eql 237 false true x0 (.pointer none) w fun v1 w2 =>
 kB v1 fun b7 => kIf b7
 (Q (.int .i64 0) w2)
 (f174_0 x0 Q w2)
theorem f174_ok {x0 : Value} {Q : PQ} {w : World} (h : f174 x0 Q w) : Meets Tryz.prog 174 #[x0] w Q :=
 sound' (c := Tryz.f174.body.get rfl) [] Tryz.func174 rfl rfl (args := [x0]) rfl (by kernel_rfl) h
end
section
attribute [local irreducible] kO kB kStr kInt kN kG kIf kfld kld kldN kst knew kmap kbld kbldS kext kcnv klenStr klen kcap kprt kprtN kbool kint kstr keq kun ksl kix kiv kta kmk kmm ksem ksemU kextf kcallV kcallM kcall kL
structure NodeM where
 mask : Nat
 wth : List Int
 wout : List Int
def NodeM.cells (x : NodeM) : List Value := msk x.mask :: (x.wth.map nV ++ x.wout.map nV)
def NodeM.new (m : Nat) : NodeM := ⟨m, List.replicate 16 (-1), List.replicate 16 (-1)⟩
def ptrV (b : Nat) : Value := .pointer (some ⟨b, 0, none⟩)
def mapM : Nat → List Nat → List (Int × Value)
 | _, [] => []
 | k, m :: r => ((m : Int), natV k) :: mapM (k + 1) r
theorem mapM_append : ∀ (k : Nat) (ms : List Nat) (m : Nat), mapM k (ms ++ [m]) = mapM k ms ++ [((m : Int), natV (k + ms.length))]
 | k, [], m => by simp [mapM]
 | k, x :: r, m => by simp [mapM, mapM_append (k + 1) r m]; congr 1; omega
theorem lk_mapM (m : Nat) : ∀ (k : Nat) (ms : List Nat), lkI (m : Int) (mapM k ms) = if m ∈ ms then some (ms.idxOf m, natV (k + ms.idxOf m)) else none
 | k, [] => by simp [mapM, lkI]
 | k, x :: r => by
  simp only [mapM, lkI]
  by_cases h : m = x
  ·subst h; simp
  ·rw [if_neg (by omega), lk_mapM m (k + 1) r]
   have hx : (x == m) = false := by simpa using fun e => h e.symm
   by_cases hr : m ∈ r
   ·simp [hr, h, List.idxOf_cons, hx]; congr 1; omega
   ·simp [hr, h]
def AtlasN (o : Lab) (w : World) (b n : Nat) (pn : Nat → Nat) (nodes : List NodeM) : Prop :=
 o b = some .atlas ∧ n ≤ 16 ∧ nodes.length ≤ 100000 ∧ ∃ nv bm, blk w b = some (.cells #[.int .i64 n, nv, .map (some bm)] 312) ∧
  Own w nv 1 ((List.range nodes.length).map fun i => ptrV (pn i)) ∧ (∀ k, vblk nv k → o k = some .nodes) ∧ o bm = some .amap ∧ MapIs w bm .u32 (mapM 0 (nodes.map (·.mask))) ∧
  ∀ i (hi : i < nodes.length), o (pn i) = some (.node i) ∧ blk w (pn i) = some (.cells (nodes[i]).cells.toArray 378) ∧ (nodes[i]).wth.length = 16 ∧ (nodes[i]).wout.length = 16 ∧ (nodes[i]).mask < 4294967296
def atlasTag (t : Tag) : Prop := t = .atlas ∨ t = .nodes ∨ t = .amap ∨ ∃ i, t = .node i
theorem AtlasN.frame {o o' : Lab} {w w' : World} {b n : Nat} {pn : Nat → Nat} {nodes : List NodeM} (h : AtlasN o w b n pn nodes) {fp : Nat → Prop} (hm : Mod fp w w') (hf : ∀ k t, o k = some t → atlasTag t → ¬ fp k) (ho : LabEq w o o') : AtlasN o' w' b n pn nodes := by
 obtain ⟨h1, h2, h3, nv, bm, hb, hO, hl, hbm, hM, hN⟩ := h
 refine ⟨by rw [ho b (lt_of_blk hb)]; exact h1, h2, h3, nv, bm, hm.get hb (hf b _ h1 (.inl rfl)), hO.mod hm fun k hk => hf k _ (hl k hk) (.inr (.inl rfl)), fun k hk => by rw [ho k (hO.vblk_lt hk)]; exact hl k hk, by rw [ho bm (lt_of_blk hM)]; exact hbm, hM.mod hm (hf bm _ hbm (.inr (.inr (.inl rfl)))), fun i hi => ?_⟩
 obtain ⟨g1, g2, g3⟩ := hN i hi
 exact ⟨by rw [ho _ (lt_of_blk g2)]; exact g1, hm.get g2 (hf _ _ g1 (.inr (.inr (.inr ⟨i, rfl⟩)))), g3⟩
theorem AtlasN.same {o : Lab} {w w' : World} {b n : Nat} {pn : Nat → Nat} {nodes : List NodeM} (h : AtlasN o w b n pn nodes) (hm : Same w w') : AtlasN o w' b n pn nodes := h.frame hm (fun _ _ _ _ h => h) (LabEq.refl _ _)
theorem ptAtl : isPtrT Tryz.prog 237 = true := by kernel_rfl
theorem apNode : appT Tryz.prog 310 1 8 = true := by kernel_rfl
theorem slNode_is : ∃ e, Tryz.prog.underlying 310 = some (.slice e) := slT_of (by kernel_rfl)
def nodeC (m j : Nat) : List Value := msk m :: ((List.replicate j (nV (-1)) ++ List.replicate (16 - j) (nV 0)) ++ (List.replicate j (nV (-1)) ++ List.replicate (16 - j) (nV 0)))
theorem nodeC_step (m j : Nat) (h : j < 16) : setAll [nV (-1)] (setAll [nV (-1)] (nodeC m j).toArray (1 + j)) (17 + j) = (nodeC m (j + 1)).toArray := by
 have hj : j = 0 ∨ j = 1 ∨ j = 2 ∨ j = 3 ∨ j = 4 ∨ j = 5 ∨ j = 6 ∨ j = 7 ∨ j = 8 ∨ j = 9 ∨ j = 10 ∨ j = 11 ∨ j = 12 ∨ j = 13 ∨ j = 14 ∨ j = 15 := by omega
 rcases hj with rfl | rfl | rfl | rfl | rfl | rfl | rfl | rfl | rfl | rfl | rfl | rfl | rfl | rfl | rfl | rfl <;> rfl
theorem nodeC_16 (m : Nat) : nodeC m 16 = (NodeM.new m).cells := rfl
theorem nodeC_len (m j : Nat) (h : j ≤ 16) : (nodeC m j).length = 33 := by
 simp [nodeC]; omega
def updN (f : Nat → Nat) (n v i : Nat) : Nat := if i = n then v else f i
theorem updN_same (f : Nat → Nat) (n v : Nat) : updN f n v n = v := if_pos rfl
theorem updN_ne (f : Nat → Nat) {n v i : Nat} (h : i ≠ n) : updN f n v i = f i := if_neg h
def growLab (o : Lab) (b0 nb k1 i : Nat) : Lab := fun k => if k < b0 then o k else if k = nb then some (.node i) else if k < k1 then none else some .nodes
theorem grow_spec {o : Lab} {w : World} {b n : Nat} {pn : Nat → Nat} {nodes : List NodeM} (h : AtlasN o w b n pn nodes) (m : Nat) (hm32 : m < 4294967296) (hnew : m ∉ nodes.map (·.mask)) (hlen : nodes.length < 100000) :
  Meets Tryz.prog 173 #[ptrV b, msk m] w fun v w' => v = natV nodes.length ∧ ∃ o' pn', LabEq w o o' ∧ (∀ i, i < nodes.length → pn' i = pn i) ∧ AtlasN o' w' b n pn' (nodes ++ [NodeM.new m]) ∧ Mod (FP o atlasTag) w w' := by
 obtain ⟨h1, h2, h3, nv, bm, hb, hO, hl, hbm, hM, hN⟩ := id h
 have lb := lt_of_blk hb
 have lbm := lt_of_blk hM
 have nbm : bm ≠ b := fun e => by rw [e, h1] at hbm; cases hbm
 refine f173_ok ?_
 unfold f173
 refine kbld_of (cs := nodeC m 0) rfl ?_
 refine knew_of fun w3 hm3 hs3 hb3 => ?_
 have hb3 : blk w3 w.heap.size = some (.cells (nodeC m 0).toArray 378) := hb3
 refine kL1_of 16 (fun j x wr => x = .int .i64 j ∧ j ≤ 16 ∧ blk wr w.heap.size = some (.cells (nodeC m j).toArray 378) ∧ Mod (fun k => k = w.heap.size) w3 wr ∧ wr.heap.size = w3.heap.size) ⟨lI1_0 ⟨rfl, by omega, hb3, Mod.refl _ _, rfl⟩, fun x wr hx => ?_⟩
 obtain ⟨j, hj, ⟨rfl, _, hbr, hmr, hsr⟩, hJ⟩ := lI1_step hx
 unfold f173_0
 refine lss_at ?_
 refine kB_at ?_
 refine kIf_dec (fun hlt => ?_) (fun hge => ?_)
 ·have hlt : j < 16 := by omega
  have hlen := nodeC_len m j hj
  unfold f173_1
  have hbr : blk wr.drew w.heap.size = _ := hbr
  have hmr := hmr.drew
  have hsr : wr.drew.heap.size = _ := hsr
  generalize wr.drew = wa at *
  refine kN_at ?_
  refine kfld_of ?_
  rw [kix_array]
  refine kG_of (by omega) ?_
  rw [add_mk, Int.toNat_natCast, Nat.mul_one, Nat.zero_add]
  refine kst_of (vs := [nV (-1)]) hbr rfl rfl rfl (by simp [hlen]; omega) (by simp) fun w7 h7 hs7 hb7 => ?_
  refine kN_at ?_
  refine kfld_of ?_
  rw [kix_array]
  refine kG_of (by omega) ?_
  rw [add_mk, Int.toNat_natCast, Nat.mul_one, Nat.zero_add]
  refine kst_of (vs := [nV (-1)]) hb7 rfl rfl rfl (by rw [setAll_size]; simp [hlen]; omega) (by simp) fun w10 h10 hs10 hb10 => ?_
  rw [nodeC_step m j hlt] at hb10
  refine add_at (by omega) (by omega) ?_
  rw [cast_succ]
  exact hJ _ _ hlt ⟨rfl, by omega, hb10, hmr.trans (h7.trans h10), by omega⟩
 ·have : j = 16 := by omega
  subst this
  rw [nodeC_16] at hbr
  clear hJ hx
  have mr : Same w wr := hm3.trans' (hmr.mono fun k _ e => .inr (by omega))
  have hba := mr.get hb (fun h => h)
  obtain ⟨na, nn, nc, rfl, hns, hnn⟩ := hO.is
  have hnn : nn = nodes.length := by simpa using hnn rfl
  subst hnn
  unfold f173_3
  refine kN_at ?_
  refine kfld_of ?_
  refine kld_at hba rfl ?_
  refine klen_at ?_
  refine kN_at ?_
  refine kfld_of ?_
  refine kld_at hba rfl ?_
  refine kbldS_of (cs := [ptrV w.heap.size]) rfl fun w19 h19 hs19 hb19 => ?_
  have hO19 := (hO.same mr).same h19
  refine ksem_append apNode (by omega) hO19 (Src.ofSlIs (hk := slNode_is.choose_spec) 1 (SlIs.blk hb19 rfl) rfl) (by simp; omega) (by simp; omega) ?_
  intro v' w21 ho21 hm21 hf21
  have hb21 := hm21.get (h19.get hba (fun h => h)) (fun e => by have := hl b e; rw [h1] at this; cases this)
  obtain ⟨a', n', c', rfl, _⟩ := ho21.is
  refine kN_at ?_
  refine kfld_of ?_
  refine kst1_of hb21 rfl rfl (by simp) fun w23 h23 hs23 hb23 => ?_
  simp only [List.setIfInBounds_toArray, List.set_cons_succ, List.set_cons_zero] at hb23
  refine kN_at ?_
  refine kfld_of ?_
  refine kld_at hb23 rfl ?_
  have hsmr := mr.size
  have hs19' := h19.size
  have hs21' := hm21.size
  have hnv : ∀ k, vblk (.slice a' n' c') k → vblk (.slice na nodes.length nc) k ∨ w19.heap.size ≤ k := hf21
  have hMm : Mod (fun k => k = b ∨ vblk (.slice na nodes.length nc) k) w w23 := (Mod.of_same (mr.trans h19)).trans ((hm21.mono fun k _ e => .inr e).trans (h23.mono fun k _ e => .inl e))
  have hM23 : MapIs w23 bm .u32 (mapM 0 (nodes.map (·.mask))) := hM.mod hMm fun e => by
   rcases e with e | e
   ·exact nbm e
   ·have := hl _ e; rw [hbm] at this; cases this
  have hlk : lkI (m : Int) (mapM 0 (nodes.map (·.mask))) = none := by rw [lk_mapM, if_neg hnew]
  refine kmapUp_of Tryz.underlying309 Tryz.underlying69 hM23 hlk fun w27 h27 hs27 hM27 => ?_
  have hb27 := h27.get hb23 nbm.symm
  have hnode23 : blk w23 w.heap.size = some (.cells (NodeM.new m).cells.toArray 378) := h23.get (hm21.get (h19.get hbr (fun h => h)) (fun e => by have := hO.vblk_lt e; omega)) (by omega)
  have hall : Mod (FP o atlasTag) w w27 := (hMm.mono fun k _ e => by
   rcases e with rfl | e
   ·exact ⟨_, h1, .inl rfl⟩
   ·exact ⟨_, hl k e, .inr (.inl rfl)⟩).trans (h27.mono fun k _ e => by
   subst e
   exact ⟨_, hbm, .inr (.inr (.inl rfl))⟩)
  refine ⟨rfl, growLab o w.heap.size w.heap.size w19.heap.size nodes.length, updN pn nodes.length w.heap.size, fun k hk => by unfold growLab; rw [if_pos hk], fun i hi => updN_ne _ (by omega), ⟨by unfold growLab; rw [if_pos lb]; exact h1, h2, by simp; omega, _, bm, hb27, ?_, ?_, by unfold growLab; rw [if_pos lbm]; exact hbm, ?_, ?_⟩, hall⟩
  ·have e : (List.range (nodes ++ [NodeM.new m]).length).map (fun i => ptrV (updN pn nodes.length w.heap.size i)) = (List.range nodes.length).map (fun i => ptrV (pn i)) ++ [ptrV w.heap.size] := by
    rw [List.length_append, List.length_cons, List.length_nil, List.range_succ, List.map_append, List.map_cons, List.map_nil, updN_same]
    congr 1
    apply List.map_congr_left
    intro i hi
    rw [updN_ne _ (by simp at hi; omega)]
   rw [e]
   refine (ho21.mod h23 fun k hk e => ?_).mod h27 fun k hk e => ?_
   ·subst e
    rcases hnv _ hk with h | h
    ·have := hl _ h; rw [h1] at this; cases this
    ·omega
   ·subst e
    rcases hnv _ hk with h | h
    ·have := hl _ h; rw [hbm] at this; cases this
    ·omega
  ·intro k hk
   unfold growLab
   rcases hnv k hk with h | h
   ·have := hO.vblk_lt h
    rw [if_pos (by omega)]; exact hl k h
   ·rw [if_neg (by omega), if_neg (by omega), if_neg (by omega)]
  ·rw [List.map_append, List.map_cons, List.map_nil, mapM_append]
   have e : 0 + (nodes.map (·.mask)).length = nodes.length := by simp
   rw [e]
   exact hM27
  ·intro i hi
   simp only [List.length_append, List.length_cons, List.length_nil] at hi
   by_cases hlast : i = nodes.length
   ·subst hlast
    rw [updN_same]
    have e : (nodes ++ [NodeM.new m])[nodes.length]'(by simp) = NodeM.new m := by simp
    simp only [e]
    exact ⟨by unfold growLab; rw [if_neg (by omega), if_pos rfl], h27.get hnode23 (by omega), rfl, rfl, hm32⟩
   ·have hi' : i < nodes.length := by omega
    rw [updN_ne _ hlast]
    have e : (nodes ++ [NodeM.new m])[i]'(by simp; omega) = nodes[i] := by rw [List.getElem_append_left hi']
    simp only [e]
    obtain ⟨g1, g2, g3⟩ := hN i hi'
    have hlt := lt_of_blk g2
    refine ⟨by unfold growLab; rw [if_pos hlt]; exact g1, h27.get (hMm.get g2 ?_) ?_, g3⟩
    ·rintro (e | e)
     ·rw [e, h1] at g1; cases g1
     ·have := hl _ e; rw [g1] at this; cases this
    ·intro e
     rw [e, hbm] at g1; cases g1
end
section
attribute [local irreducible] kO kB kStr kInt kN kG kIf kfld kld kldN kst knew kmap kbld kbldS kext kcnv klenStr klen kcap kprt kprtN kbool kint kstr keq kun ksl kix kiv kta kmk kmm ksem ksemU kextf kcallV kcallM kcall kL
def addM (ms : List Nat) (m : Nat) : List Nat := if m ∈ ms then ms else ms ++ [m]
theorem addM_mem (ms : List Nat) (m : Nat) : m ∈ addM ms m := by
 unfold addM; split
 ·assumption
 ·simp
theorem mz_int : zeroO Tryz.prog 3 = some (.int .i64 0) := by kernel_rfl
theorem shr_mask {m n : Nat} (hm : m < 4294967296) (hn : n ≤ 16) : ishr .u32 (m : Int) (n : Int) = ((m / 2 ^ n : Nat) : Int) := shr_nat m n (by show n ≤ 32; omega)
theorem atAt_spec {o : Lab} {w : World} {b n : Nat} {pn : Nat → Nat} {nodes : List NodeM} (h : AtlasN o w b n pn nodes) (m : Nat) (hm : m < 2 ^ n) (hlen : nodes.length < 100000) :
  Meets Tryz.prog 128 #[ptrV b, msk m] w fun v w' => ∃ o' pn' nodes', v = .tuple #[natV ((nodes'.map (·.mask)).idxOf m), .nilIface] ∧ LabEq w o o' ∧ (∀ i, i < nodes.length → pn' i = pn i) ∧ AtlasN o' w' b n pn' nodes' ∧ Mod (FP o atlasTag) w w' ∧
   (nodes' = nodes ∧ m ∈ nodes.map (·.mask) ∨ nodes' = nodes ++ [NodeM.new m] ∧ m ∉ nodes.map (·.mask)) := by
 obtain ⟨h1, h2, h3, nv, bm, hb, hO, hl, hbm, hM, hN⟩ := id h
 have h16 : m < 4294967296 := by
  have : 2 ^ n ≤ 2 ^ 16 := Nat.pow_le_pow_right (by omega) h2
  omega
 refine f128_ok ?_
 unfold f128
 rw [ptrV, keq_ptr_nil ptAtl]
 refine kB_at ?_
 refine kIf_F rfl ?_
 refine kN_at ?_
 refine kfld_of ?_
 refine kld_at hb rfl ?_
 rw [msk, kint_shr]
 refine kG_of (by omega) ?_
 rw [shr_mask h16 h2, Nat.div_eq_of_lt hm]
 refine neq_at ?_
 refine kB_at ?_
 refine kIf_F rfl ?_
 refine kN_at ?_
 refine kfld_of ?_
 refine kld_at hb rfl ?_
 by_cases hin : m ∈ nodes.map (·.mask)
 ·refine klookOk_of Tryz.underlying309 Tryz.underlying69 mz_int hM (r := some (_, _)) (by rw [lk_mapM, if_pos hin]) ?_
  refine kext_at rfl ?_
  refine kext_at rfl ?_
  refine kB_at ?_
  refine kIf_T rfl ?_
  refine ⟨o, pn, nodes, by simp [natV], LabEq.refl _ _, fun _ _ => rfl, h, Mod.refl _ _, .inl ⟨rfl, hin⟩⟩
 ·refine klookOk_of Tryz.underlying309 Tryz.underlying69 mz_int hM (r := none) (by rw [lk_mapM, if_neg hin]) ?_
  refine kext_at rfl ?_
  refine kext_at rfl ?_
  refine kB_at ?_
  refine kIf_F rfl ?_
  refine kcall_of (grow_spec h m h16 hin hlen) ?_
  rintro v w' ⟨rfl, o', pn', g1, g2, g3, g4⟩
  refine ⟨o', pn', _, ?_, g1, g2, g3, g4, .inr ⟨rfl, hin⟩⟩
  rw [List.map_append, List.idxOf_append, if_neg hin]
  simp [NodeM.new]
theorem node_spec {o : Lab} {w : World} {b n : Nat} {pn : Nat → Nat} {nodes : List NodeM} (h : AtlasN o w b n pn nodes) (i : Nat) (hi : i < nodes.length) :
  Meets Tryz.prog 210 #[ptrV b, .int .i64 i] w fun v w' => v = .tuple #[ptrV (pn i), .nilIface] ∧ w' = w := by
 obtain ⟨h1, h2, h3, nv, bm, hb, hO, hl, hbm, hM, hN⟩ := id h
 obtain ⟨na, nn, nc, rfl, hns, hnn⟩ := hO.is
 have hnn : nn = nodes.length := by simpa using hnn rfl
 subst hnn
 refine f210_ok ?_
 unfold f210
 rw [ptrV, keq_ptr_nil ptAtl]
 refine kB_at ?_
 refine kIf_F rfl ?_
 refine lss_at ?_
 refine kB_at ?_
 refine kIf_T rfl ?_
 refine kN_at ?_
 refine kfld_of ?_
 refine kld_at hb rfl ?_
 refine klen_at ?_
 refine geq_at ?_
 refine kB_at ?_
 refine kIf_F (decF (by omega)) ?_
 refine kN_at ?_
 refine kfld_of ?_
 refine kld_at hb rfl ?_
 have hns' : SlIs w na (List.range nodes.length).length 1 ((List.range nodes.length).map fun i => ptrV (pn i)) := by simpa using hns
 have e : nodes.length = (List.range nodes.length).length := by simp
 rw [e]
 refine kixld_of (F := fun i => ptrV (pn i)) hns' (by simpa using hi) rfl ?_
 simp [ptrV]
theorem mask_spec {o : Lab} {w : World} {b n : Nat} {pn : Nat → Nat} {nodes : List NodeM} (h : AtlasN o w b n pn nodes) (i : Nat) (hi : i < nodes.length) :
  Meets Tryz.prog 175 #[ptrV b, .int .i64 i] w fun v w' => v = .tuple #[msk (nodes[i]).mask, .nilIface] ∧ w' = w := by
 obtain ⟨h1, h2, h3, nv, bm, hb, hO, hl, hbm, hM, hN⟩ := id h
 obtain ⟨g1, g2, g3⟩ := hN i hi
 refine f175_ok ?_
 unfold f175
 refine kcall_of (node_spec h i hi) ?_
 rintro v w' ⟨rfl, rfl⟩
 refine kext_at rfl ?_
 refine kext_at rfl ?_
 rw [keq_nil_nil' ifErr]
 rw [ptrV]
 refine kB_at ?_
 refine kIf_F rfl ?_
 refine kN_at ?_
 refine kfld_of ?_
 refine kld_at g2 rfl ?_
 exact ⟨rfl, rfl⟩
theorem len_spec {o : Lab} {w : World} {b n : Nat} {pn : Nat → Nat} {nodes : List NodeM} (h : AtlasN o w b n pn nodes) :
  Meets Tryz.prog 174 #[ptrV b] w fun v w' => v = natV nodes.length ∧ w' = w := by
 obtain ⟨h1, h2, h3, nv, bm, hb, hO, hl, hbm, hM, hN⟩ := id h
 obtain ⟨na, nn, nc, rfl, hns, hnn⟩ := hO.is
 have hnn : nn = nodes.length := by simpa using hnn rfl
 subst hnn
 refine f174_ok ?_
 unfold f174
 rw [ptrV, keq_ptr_nil ptAtl]
 refine kB_at ?_
 refine kIf_F rfl ?_
 refine kN_at ?_
 refine kfld_of ?_
 refine kld_at hb rfl ?_
 refine klen_at ?_
 exact ⟨rfl, rfl⟩
def atlasLab (o : Lab) (bm b k : Nat) : Option Tag := if k < bm then o k else if k = bm then some .amap else some .atlas
theorem aNew_spec (o : Lab) (ho : ∀ k t, o k = some t → ¬ atlasTag t) (w : World) (n : Nat) (hn : n ≤ 16) : Meets Tryz.prog 117 #[.int .i64 n] w fun v w' =>
  ∃ b o' pn, v = .tuple #[ptrV b, .nilIface] ∧ LabEq w o o' ∧ AtlasN o' w' b n pn [NodeM.new 0] ∧ Same w w' := by
 refine f117_ok ?_
 unfold f117
 refine lss_at ?_
 refine kB_at ?_
 refine kIf_T rfl ?_
 refine gtr_at ?_
 refine kB_at ?_
 refine kIf_F (decF (by omega)) ?_
 unfold f117_1
 refine kmap_of fun w8 h8 hs8 hm8 => ?_
 refine kbld_of (cs := [.int .i64 n, .slice none 0 0, .map (some w.heap.size)]) rfl ?_
 refine knew_of fun w11 h11 hs11 hb11 => ?_
 have hb11 : blk w11 w8.heap.size = some (.cells #[.int .i64 n, .slice none 0 0, .map (some w.heap.size)] 312) := hb11
 have hA : AtlasN (atlasLab o w.heap.size w8.heap.size) w11 w8.heap.size n (fun _ => 0) [] :=
  ⟨by unfold atlasLab; rw [if_neg (by omega), if_neg (by omega)], hn, by simp, _, _, hb11, Own.nil _ _, (fun k hk => by obtain ⟨_, _, _, e⟩ := hk; cases e), by unfold atlasLab; rw [if_neg (by omega), if_pos rfl], (hm8 .u32).same h11, (fun i hi => by simp at hi)⟩
 refine kcall_of (grow_spec hA 0 (by decide) (by simp) (by decide)) ?_
 rintro v w13 ⟨rfl, o', pn', g1, g2, g3, g4⟩
 refine ⟨_, o', pn', rfl, fun k hk => ?_, g3, (h8.trans h11).trans' (g4.mono fun k hlt hk => ?_)⟩
 ·rw [g1 k (by omega)]
  unfold atlasLab
  rw [if_pos hk]
 ·right
  obtain ⟨t, e1, e2⟩ := hk
  rcases Nat.lt_or_ge k w.heap.size with hk2 | hk2
  ·unfold atlasLab at e1
   rw [if_pos hk2] at e1
   exact absurd e2 (ho k t e1)
  ·exact hk2
def EdgeOk (n : Nat) (masks : List Nat) (x : NodeM) : Prop := ∀ c, c < n → (x.wth[c]? = some (-1) ∨ ∃ t : Nat, x.wth[c]? = some (t : Int) ∧ masks[t]? = some (x.mask ||| 2 ^ c)) ∧ (x.wout[c]? = some (-1) ∨ ∃ t : Nat, x.wout[c]? = some (t : Int) ∧ masks[t]? = some (andN x.mask (2 ^ c)))
theorem EdgeOk.grow {n : Nat} {masks : List Nat} {x : NodeM} (h : EdgeOk n masks x) (m : Nat) : EdgeOk n (addM masks m) x := by
 have hg : ∀ t k : Nat, masks[t]? = some k → (addM masks m)[t]? = some k := by
  intro t k ht
  unfold addM
  split
  ·exact ht
  ·rw [List.getElem?_append_left (List.getElem?_eq_some_iff.1 ht).1]; exact ht
 intro c hc
 obtain ⟨h1, h2⟩ := h c hc
 refine ⟨h1.imp id ?_, h2.imp id ?_⟩
 ·rintro ⟨t, e1, e2⟩; exact ⟨t, e1, hg t _ e2⟩
 ·rintro ⟨t, e1, e2⟩; exact ⟨t, e1, hg t _ e2⟩
theorem EdgeOk.new (n : Nat) (hn : n ≤ 16) (masks : List Nat) (m : Nat) : EdgeOk n masks (NodeM.new m) := by
 intro c hc
 have : c < 16 := by omega
 have e : (List.replicate 16 (-1 : Int))[c]? = some (-1) := by rw [List.getElem?_replicate, if_pos this]
 exact ⟨.inl e, .inl e⟩
def AtlasAt (o : Lab) (w : World) (b n : Nat) (masks : List Nat) : Prop := ∃ pn nodes, AtlasN o w b n pn nodes ∧ nodes.map (·.mask) = masks ∧ masks.Nodup ∧ (∀ x ∈ nodes, EdgeOk n masks x) ∧ ∀ m ∈ masks, m < 2 ^ n
theorem AtlasAt.frame {o o' : Lab} {w w' : World} {b n : Nat} {masks : List Nat} (h : AtlasAt o w b n masks) {fp : Nat → Prop} (hm : Mod fp w w') (hf : ∀ k t, o k = some t → atlasTag t → ¬ fp k) (ho : LabEq w o o') : AtlasAt o' w' b n masks := by
 obtain ⟨pn, nodes, h1, h2⟩ := h
 exact ⟨pn, nodes, h1.frame hm hf ho, h2⟩
theorem AtlasAt.same {o : Lab} {w w' : World} {b n : Nat} {masks : List Nat} (h : AtlasAt o w b n masks) (hm : Same w w') : AtlasAt o w' b n masks := h.frame hm (fun _ _ _ _ h => h) (LabEq.refl _ _)
theorem addM_nodup {ms : List Nat} (h : ms.Nodup) (m : Nat) : (addM ms m).Nodup := by
 unfold addM; split
 ·exact h
 ·rw [List.nodup_append]
  refine ⟨h, by simp, ?_⟩
  intro a ha b hb
  have : b = m := by simpa using hb
  subst this
  rintro rfl
  contradiction
theorem addM_of {nodes nodes' : List NodeM} {m : Nat} (h : nodes' = nodes ∧ m ∈ nodes.map (·.mask) ∨ nodes' = nodes ++ [NodeM.new m] ∧ m ∉ nodes.map (·.mask)) : nodes'.map (·.mask) = addM (nodes.map (·.mask)) m := by
 unfold addM
 rcases h with ⟨rfl, h⟩ | ⟨rfl, h⟩
 ·rw [if_pos h]
 ·rw [if_neg h]; simp [NodeM.new]
theorem addM_lt {n : Nat} {ms : List Nat} {m : Nat} (h : ∀ x ∈ ms, x < 2 ^ n) (hm : m < 2 ^ n) : ∀ x ∈ addM ms m, x < 2 ^ n := by
 intro x hx
 unfold addM at hx
 split at hx
 ·exact h x hx
 ·rcases List.mem_append.1 hx with h1 | h1
  ·exact h x h1
  ·have : x = m := by simpa using h1
   omega
theorem at_spec {o : Lab} {w : World} {b n : Nat} {masks : List Nat} (h : AtlasAt o w b n masks) (m : Nat) (hm : m < 2 ^ n) (hlen : masks.length < 100000) :
  Meets Tryz.prog 128 #[ptrV b, msk m] w fun v w' => v = .tuple #[natV ((addM masks m).idxOf m), .nilIface] ∧ ∃ o', LabEq w o o' ∧ AtlasAt o' w' b n (addM masks m) ∧ Mod (FP o atlasTag) w w' := by
 obtain ⟨pn, nodes, hN, rfl, hnd, hE, hlt⟩ := h
 have hn := hN.2.1
 refine (atAt_spec hN m hm (by simpa using hlen)).mono ?_
 rintro v w' ⟨o', pn', nodes', rfl, g1, g2, g3, g4, g5⟩
 have e := addM_of g5
 refine ⟨by rw [e], o', g1, ⟨pn', nodes', g3, e, addM_nodup hnd m, ?_, addM_lt hlt hm⟩, g4⟩
 intro x hx
 rcases g5 with ⟨rfl, _⟩ | ⟨rfl, _⟩
 ·exact (hE x hx).grow m
 ·rcases List.mem_append.1 hx with h1 | h1
  ·exact (hE x h1).grow m
  ·have : x = NodeM.new m := by simpa using h1
   subst this
   exact EdgeOk.new n hn _ m
theorem maskAt_spec {o : Lab} {w : World} {b n : Nat} {masks : List Nat} (h : AtlasAt o w b n masks) (i : Nat) (hi : i < masks.length) :
  Meets Tryz.prog 175 #[ptrV b, .int .i64 i] w fun v w' => v = .tuple #[msk masks[i], .nilIface] ∧ w' = w := by
 obtain ⟨pn, nodes, hN, rfl, _⟩ := h
 refine (mask_spec hN i (by simpa using hi)).mono ?_
 rintro v w' ⟨rfl, rfl⟩
 simp
theorem lenAt_spec {o : Lab} {w : World} {b n : Nat} {masks : List Nat} (h : AtlasAt o w b n masks) :
  Meets Tryz.prog 174 #[ptrV b] w fun v w' => v = natV masks.length ∧ w' = w := by
 obtain ⟨pn, nodes, hN, rfl, _⟩ := h
 refine (len_spec hN).mono ?_
 rintro v w' ⟨rfl, rfl⟩
 simp
theorem newAt_spec (o : Lab) (ho : ∀ k t, o k = some t → ¬ atlasTag t) (w : World) (n : Nat) (hn : n ≤ 16) : Meets Tryz.prog 117 #[.int .i64 n] w fun v w' =>
  ∃ b o', v = .tuple #[ptrV b, .nilIface] ∧ LabEq w o o' ∧ AtlasAt o' w' b n [0] ∧ Same w w' := by
 refine (aNew_spec o ho w n hn).mono ?_
 rintro v w' ⟨b, o', pn, rfl, g1, g2, g3⟩
 refine ⟨b, o', rfl, g1, ⟨pn, _, g2, rfl, by simp, ?_, ?_⟩, g3⟩
 ·intro x hx
  have : x = NodeM.new 0 := by simpa using hx
  subst this
  exact EdgeOk.new n hn _ 0
 ·intro m hm
  have : m = 0 := by simpa using hm
  subst this
  exact Nat.two_pow_pos n
end
section
attribute [local irreducible] kO kB kStr kInt kN kG kIf kfld kld kldN kst knew kmap kbld kbldS kext kcnv klenStr klen kcap kprt kprtN kbool kint kstr keq kun ksl kix kiv kta kmk kmm ksem ksemU kextf kcallV kcallM kcall kL
theorem bitF_nat {c : Nat} (h : c < 32) : bitF (c : Int) = 2 ^ c := by unfold bitF; rw [if_neg (by omega), if_neg (by omega)]; rfl
end
section
attribute [local irreducible] kO kB kStr kInt kN kG kIf kfld kld kldN kst knew kmap kbld kbldS kext kcnv klenStr klen kcap kprt kprtN kbool kint kstr keq kun ksl kix kiv kta kmk kmm ksem ksemU kextf kcallV kcallM kcall kL
end
section
def f62_3 (x1 x7 x9 x10 : Value) (Q : PQ) (w : World) : Prop :=
 kldN 2 x10 w.drew fun v42 =>
 kG (w.drew = w.drew) <|
 kmk (.agg #[.int .i64 0, .int .i64 0]) 16 263 x1 x1 w.drew fun v43 w44 =>
 kG (kldN 2 x10 w44 fun v50 =>
 v50 = v42 ∧ w44 = w44) <|
 kbld [.pointer none, .slice none 0 0, .slice none 0 0, .pointer none, .slice none 0 0, .slice none 0 0] [(0, 1, x7), (1, 2, v42), (3, 1, x9), (5, 1, v43)] fun v45 =>
 knew (Value.cells v45) 243 w44 fun v46 w47 =>
 kcall Tryz.prog 118 #[v46] w47 fun v48 w49 =>
 Q (.tuple #[v46, v48]) w49
def f62_2 (x1 x2 x7 x9 : Value) (Q : PQ) (w : World) : Prop :=
 (kfld 0 x2 fun v30 =>
 kld v30 w.drew fun v31 =>
 kG (w.drew = w.drew) <|
 kcall Tryz.prog 65 #[v31] w.drew fun v32 w33 =>
 (kfld 1 x2 fun v34 =>
 kld v34 w33 fun v35 =>
 kG (w33 = w33) <|
 kG (kld v34 w.drew fun v53 =>
 v53 = v35 ∧ w.drew = w.drew) <|
 kcall Tryz.prog 66 #[v35] w33 fun v36 w37 =>
 knew #[.slice none 0 0, .slice none 0 0] 25 w37 fun v38 w39 =>
 kG (kld v34 w39 fun v52 =>
 v52 = v35 ∧ w39 = w39) <|
 kG (kld v30 w39 fun v51 =>
 v51 = v31 ∧ w39 = w39) <|
 kbld [.slice none 0 0, .slice none 0 0] [(0, 1, v32), (1, 1, v36)] fun v40 =>
 kst 2 v38 v40 w39 fun w41 =>
 f62_3 x1 x7 x9 v38 Q w41) ∧
 (knew #[.slice none 0 0, .slice none 0 0] 25 w33 fun v54 w55 =>
 kG (kld v30 w55 fun v64 =>
 v64 = v31 ∧ w55 = w55) <|
 kfld 1 x2 fun v56 =>
 kld v56 w55 fun v57 =>
 kG (w55 = w55) <|
 kG (kld v56 w33 fun v63 =>
 v63 = v57 ∧ w33 = w33) <|
 kG (kld v56 w.drew fun v62 =>
 v62 = v57 ∧ w.drew = w.drew) <|
 kcall Tryz.prog 66 #[v57] w55 fun v58 w59 =>
 kbld [.slice none 0 0, .slice none 0 0] [(0, 1, v32), (1, 1, v58)] fun v60 =>
 kst 2 v54 v60 w59 fun w61 =>
 f62_3 x1 x7 x9 v54 Q w61)) ∧
 (knew #[.slice none 0 0, .slice none 0 0] 25 w.drew fun v65 w66 =>
 kfld 0 x2 fun v67 =>
 kld v67 w66 fun v68 =>
 kG (w66 = w66) <|
 kG (kld v67 w.drew fun v79 =>
 v79 = v68 ∧ w.drew = w.drew) <|
 kcall Tryz.prog 65 #[v68] w66 fun v69 w70 =>
 kfld 1 x2 fun v71 =>
 kld v71 w70 fun v72 =>
 kG (w70 = w70) <|
 kG (kld v71 w66 fun v78 =>
 v78 = v72 ∧ w66 = w66) <|
 kG (kld v71 w.drew fun v77 =>
 v77 = v72 ∧ w.drew = w.drew) <|
 kcall Tryz.prog 66 #[v72] w70 fun v73 w74 =>
 kbld [.slice none 0 0, .slice none 0 0] [(0, 1, v69), (1, 1, v73)] fun v75 =>
 kst 2 v65 v75 w74 fun w76 =>
 f62_3 x1 x7 x9 v65 Q w76)
def f62_1 (x1 x2 x7 : Value) (Q : PQ) (w : World) : Prop :=
 kfld 0 x2 fun v18 =>
 kld v18 w fun v19 =>
 klen v19 fun v20 =>
 kcall Tryz.prog 117 #[v20] w fun v22 w23 =>
 kext v22 0 fun v24 =>
 kext v22 1 fun v25 =>
 keq Tryz.prog .neq 33 false true v25 .nilIface w23 fun v26 w27 =>
 kB v26 fun b80 => kIf b80
 (kcall Tryz.prog 115 #[v25] w27 fun v28 w29 =>
 Q (.tuple #[.pointer none, v28]) w29)
 (f62_2 x1 x2 x7 v24 Q w27)
def f62_0 (x1 x2 : Value) (Q : PQ) (w : World) : Prop :=
 kcall Tryz.prog 116 #[x1] w fun v10 w11 =>
 kext v10 0 fun v12 =>
 kext v10 1 fun v13 =>
 keq Tryz.prog .neq 33 false true v13 .nilIface w11 fun v14 w15 =>
 kB v14 fun b81 => kIf b81
 (kcall Tryz.prog 115 #[v13] w15 fun v16 w17 =>
 Q (.tuple #[.pointer none, v16]) w17)
 (f62_1 x1 x2 v12 Q w15)
def f62 (x0 x1 : Value) (Q : PQ) (w : World) : Prop :=
 knew (Value.cells x0) 25 w fun v1 w2 =>
 kldN 2 v1 w2 fun v3 =>
 kcall Tryz.prog 22 #[v3] w2 fun v4 w5 =>
 keq Tryz.prog .neq 33 false true v4 .nilIface w5 fun v6 w7 =>
 kB v6 fun b82 => kIf b82
 (kcall Tryz.prog 115 #[v4] w7 fun v8 w9 =>
 Q (.tuple #[.pointer none, v8]) w9)
 (f62_0 x1 v1 Q w7)
theorem f62_ok {x0 x1 : Value} {Q : PQ} {w : World} (h : f62 x0 x1 Q w) : Meets Tryz.prog 62 #[x0, x1] w Q :=
 sound' (c := Tryz.f62.body.get rfl) [] Tryz.func62 rfl rfl (args := [x0, x1]) rfl (by kernel_rfl) h
def f118_6 (x0 x3 x6 x41 x42 x43 : Value) (J9 : Value → World → Prop) (J2 : Value → World → Prop) (Q : PQ) (w : World) : Prop :=
 kint .i64 .add x43 (.int .i64 1) fun v46 =>
 J9 v46 w
def f118_5 (x0 x3 x6 x8 x9 x41 x42 x43 : Value) (J9 : Value → World → Prop) (J2 : Value → World → Prop) (Q : PQ) (w : World) : Prop :=
 kN x6 <|
 kfld 1 x6 fun v42 =>
 kld v42 w fun v43 =>
 ksemU Tryz.prog (Instr.mapUpdate 316 v43 x8 x9) w fun _ w45 =>
 f118_6 x0 x3 x6 x41 x42 x43 J9 J2 Q w45
def f118_4 (x0 x3 x6 x41 x42 x43 : Value) (J9 : Value → World → Prop) (J2 : Value → World → Prop) (Q : PQ) (w : World) : Prop :=
 kix (some (.slice 3)) (some 1) x41 x43 fun v28 =>
 kld v28 w fun v29 =>
 kN x0 <|
 kfld 1 x0 fun v30 =>
 kfld 0 v30 fun v31 =>
 kld v31 w fun v32 =>
 kix (some (.slice 80)) (some 7) v32 v29 fun v33 =>
 kfld 1 v33 fun v34 =>
 kld v34 w fun v35 =>
 kcall Tryz.prog 177 #[v29, v35] w fun v36 w37 =>
 kext v36 0 fun v38 =>
 kext v36 1 fun v39 =>
 keq Tryz.prog .neq 33 false true v39 .nilIface w37 fun v40 w41 =>
 kB v40 fun b47 => kIf b47
 (Q v39 w41)
 (f118_5 x0 x3 x6 v29 v38 x41 x42 x43 J9 J2 Q w41)
def f118_8 (x0 x3 : Value) (J2 : Value → World → Prop) (Q : PQ) (w : World) : Prop :=
 kint .i64 .add x3 (.int .i64 1) fun v56 =>
 J2 v56 w
def f118_7 (x0 x3 x6 : Value) (J2 : Value → World → Prop) (Q : PQ) (w : World) : Prop :=
 kN x0 <|
 kfld 4 x0 fun v48 =>
 kld v48 w fun v49 =>
 kbldS [.pointer none] 1 [(0, 1, x6)] 315 w fun v50 w51 =>
 ksem Tryz.prog (Builtin.append_ #[241, 241] 0 #[v49, v50]) w51 fun v52 w53 =>
 kN x0 <|
 kfld 4 x0 fun v54 =>
 kst 1 v54 v52 w53 fun w55 =>
 f118_8 x0 x3 J2 Q w55
def f118_3 (x43 x0 x3 x6 x41 x42 : Value) (J9 : Value → World → Prop) (J2 : Value → World → Prop) (Q : PQ) (w : World) : Prop :=
 kint .i64 .lss x43 x42 fun v27 =>
 kB v27 fun b57 => kIf b57
 (f118_4 x0 x3 x6 x41 x42 x43 J9 J2 Q w)
 (f118_7 x0 x3 x6 J2 Q w)
def f118_2 (x0 x3 x4 : Value) (J2 : Value → World → Prop) (Q : PQ) (w : World) : Prop :=
 kmap w fun v18 w19 =>
 kbld [.slice none 0 0, .map none] [(1, 1, v18)] fun v20 =>
 knew (Value.cells v20) 319 w19 fun v21 w22 =>
 kcall Tryz.prog 176 #[x4] w22 fun v23 w24 =>
 klen v23 fun v25 =>
 kL fun (I : Value → World → Prop) (μ : Value → World → Nat) => I (.int .i64 0) w24 ∧ ∀ (x43 : Value) (w1 : World), I x43 w1 →
 f118_3 x43 x0 x3 v21 v23 v25 (fun y43 w2 => I y43 w2 ∧ μ y43 w2 < μ x43 w1) J2 Q w1
def f118_1 (x0 x3 : Value) (J2 : Value → World → Prop) (Q : PQ) (w : World) : Prop :=
 kN x0 <|
 kfld 3 x0 fun v10 =>
 kld v10 w fun v11 =>
 kcall Tryz.prog 175 #[v11, x3] w fun v12 w13 =>
 kext v12 0 fun v14 =>
 kext v12 1 fun v15 =>
 keq Tryz.prog .neq 33 false true v15 .nilIface w13 fun v16 w17 =>
 kB v16 fun b58 => kIf b58
 (Q v15 w17)
 (f118_2 x0 x3 v14 J2 Q w17)
def f118_9 (Q : PQ) (w : World) : Prop :=
 Q .nilIface w
def f118_0 (x3 x0 : Value) (J2 : Value → World → Prop) (Q : PQ) (w : World) : Prop :=
 kN x0 <|
 kfld 3 x0 fun v5 =>
 kld v5 w fun v6 =>
 kcall Tryz.prog 174 #[v6] w fun v7 w8 =>
 kint .i64 .lss x3 v7 fun v9 =>
 kB v9 fun b59 => kIf b59
 (f118_1 x0 x3 J2 Q w8)
 (f118_9 Q w8)
def f118 (x0 : Value) (Q : PQ) (w : World) : Prop :=
 kN x0 <|
 kfld 4 x0 fun v1 =>
 kld v1 w fun v2 =>
 klen v2 fun v3 =>
 kL fun (I : Value → World → Prop) (μ : Value → World → Nat) => I v3 w ∧ ∀ (x3 : Value) (w1 : World), I x3 w1 →
 f118_0 x3 x0 (fun y3 w2 => I y3 w2 ∧ μ y3 w2 < μ x3 w1) Q w1
theorem f118_ok {x0 : Value} {Q : PQ} {w : World} (h : f118 x0 Q w) : Meets Tryz.prog 118 #[x0] w Q :=
 sound' (c := Tryz.f118.body.get rfl) [(2, [3]), (9, [43])] Tryz.func118 rfl rfl (args := [x0]) rfl (by kernel_rfl) h
def f183_4 (x32 x33 x34 : Value) (J4 : Value → World → Prop) (Q : PQ) (w : World) : Prop :=
 kint .i64 .add x34 (.int .i64 1) fun v31 =>
 J4 v31 w
def f183_3 (x32 x33 x34 : Value) (J4 : Value → World → Prop) (Q : PQ) (w : World) : Prop :=
 kix (some (.slice 3)) (some 1) x32 x34 fun v28 =>
 kld v28 w fun v29 =>
 kint .i64 .neq v29 (.int .i64 0) fun v30 =>
 kB v30 fun b32 => kIf b32
 (Q (.bool false) w)
 (f183_4 x32 x33 x34 J4 Q w)
def f183_5 (Q : PQ) (w : World) : Prop :=
 Q (.bool true) w
def f183_2 (x34 x32 x33 : Value) (J4 : Value → World → Prop) (Q : PQ) (w : World) : Prop :=
 kint .i64 .lss x34 x33 fun v27 =>
 kB v27 fun b33 => kIf b33
 (f183_3 x32 x33 x34 J4 Q w)
 (f183_5 Q w)
def f183_1 (x0 x3 : Value) (Q : PQ) (w : World) : Prop :=
 kfld 1 x3 fun v15 =>
 kN x0 <|
 kfld 1 x0 fun v16 =>
 kfld 0 v16 fun v17 =>
 kld v17 w.drew fun v18 =>
 kG (w.drew = w.drew) <|
 kfld 0 x3 fun v19 =>
 kld v19 w.drew fun v20 =>
 kG (w.drew = w.drew) <|
 kix (some (.slice 80)) (some 7) v18 v20 fun v21 =>
 kfld 1 v21 fun v22 =>
 kld v22 w.drew fun v23 =>
 kG (w.drew = w.drew) <|
 ksl (some (.array 4 3)) (some 1) v15 (some v23) none fun v24 =>
 klen v24 fun v25 =>
 kL fun (I : Value → World → Prop) (μ : Value → World → Nat) => I (.int .i64 0) w.drew ∧ ∀ (x34 : Value) (w1 : World), I x34 w1 →
 f183_2 x34 v24 v25 (fun y34 w2 => I y34 w2 ∧ μ y34 w2 < μ x34 w1) Q w1
def f183_0 (x0 x3 x20 : Value) (Q : PQ) (w : World) : Prop :=
 kB x20 fun b34 => kIf b34
 (Q (.bool false) w)
 (f183_1 x0 x3 Q w)
def f183 (x0 x1 : Value) (Q : PQ) (w : World) : Prop :=
 knew (Value.cells x1) 102 w fun v1 w2 =>
 kfld 0 v1 fun v3 =>
 kld v3 w2.drew fun v4 =>
 kG (w2.drew = w2.drew) <|
 kint .i64 .lss v4 (.int .i64 0) fun v5 =>
 kB v5 fun b6 => kIf (!b6)
 (kfld 0 v1 fun v7 =>
 kld v7 w2.drew fun v8 =>
 kG (w2.drew = w2.drew) <|
 kN x0 <|
 kfld 1 x0 fun v9 =>
 kfld 0 v9 fun v10 =>
 kld v10 w2.drew fun v11 =>
 kG (w2.drew = w2.drew) <|
 klen v11 fun v12 =>
 kint .i64 .geq v8 v12 fun v14 =>
 f183_0 x0 v1 v14 Q w2.drew)
 (f183_0 x0 v1 (.bool true) Q w2.drew)
theorem f183_ok {x0 x1 : Value} {Q : PQ} {w : World} (h : f183 x0 x1 Q w) : Meets Tryz.prog 183 #[x0, x1] w Q :=
 sound' (c := Tryz.f183.body.get rfl) [(4, [34])] Tryz.func183 rfl rfl (args := [x0, x1]) rfl (by kernel_rfl) h
def f129_2 (x0 x2 x5 x9 x21 x22 x23 : Value) (J3 : Value → World → Prop) (Q : PQ) (w : World) : Prop :=
 kint .i64 .add x23 (.int .i64 1) fun v28 =>
 J3 v28 w
def f129_1 (x0 x2 x5 x9 x21 x22 x23 : Value) (J3 : Value → World → Prop) (Q : PQ) (w : World) : Prop :=
 kix (some (.slice 102)) (some 6) x21 x23 fun v10 =>
 kldN 6 v10 w fun v11 =>
 knew #[.int .i64 0, .int .i64 0, .int .i64 0, .int .i64 0, .int .i64 0, .int .i64 0] 102 w fun v12 w13 =>
 kst 6 v12 v11 w13 fun w14 =>
 kN x9 <|
 kfld 1 x9 fun v15 =>
 kld v15 w14.drew fun v16 =>
 kG (w14.drew = w14.drew) <|
 kfld 0 v12 fun v17 =>
 kld v17 w14.drew fun v18 =>
 kG (w14.drew = w14.drew) <|
 ksem Tryz.prog (Instr.lookup 316 v16 v18 false) w14.drew fun v19 w20 =>
 kG (w20 = w14.drew) <|
 kldN 6 v12 w20 fun v21 =>
 kG (w20 = w20) <|
 kcall Tryz.prog 186 #[v19, v21] w20 fun v22 w23 =>
 kext v22 0 fun v24 =>
 kext v22 1 fun v25 =>
 keq Tryz.prog .neq 33 false true v25 .nilIface w23 fun v26 w27 =>
 kB v26 fun b29 => kIf b29
 (Q v25 w27)
 (f129_2 x0 x2 x5 x9 x21 x22 x23 J3 Q w27)
def f129_3 (x0 x2 x5 x9 : Value) (Q : PQ) (w : World) : Prop :=
 kN x0 <|
 kfld 5 x0 fun v30 =>
 kld v30 w.drew fun v31 =>
 kG (w.drew = w.drew) <|
 kfld 0 x5 fun v32 =>
 kld v32 w.drew fun v33 =>
 kG (w.drew = w.drew) <|
 kN x9 <|
 kfld 0 x9 fun v34 =>
 kld v34 w.drew fun v35 =>
 kG (w.drew = w.drew) <|
 klen v35 fun v36 =>
 kbld [.int .i64 0, .int .i64 0] [(0, 1, x2), (1, 1, v36)] fun v38 =>
 kix (some (.slice 263)) (some 2) v31 v33 fun v39 =>
 kst 2 v39 v38 w.drew fun w40 =>
 kN x9 <|
 kfld 0 x9 fun v41 =>
 kld v41 w40.drew fun v42 =>
 kG (w40.drew = w40.drew) <|
 kldN 2 x5 w40.drew fun v43 =>
 kG (w40.drew = w40.drew) <|
 kbldS [.int .i64 0, .int .i64 0] 1 [(0, 2, v43)] 176 w40.drew fun v44 w45 =>
 kG (kld v41 w45 fun v50 =>
 v50 = v42 ∧ w45 = w45) <|
 ksem Tryz.prog (Builtin.append_ #[317, 317] 0 #[v42, v44]) w45 fun v46 w47 =>
 kN x9 <|
 kfld 0 x9 fun v48 =>
 kst 1 v48 v46 w47 fun w49 =>
 Q .nilIface w49
def f129_0 (x23 x0 x2 x5 x9 x21 x22 : Value) (J3 : Value → World → Prop) (Q : PQ) (w : World) : Prop :=
 kint .i64 .lss x23 x22 fun v9 =>
 kB v9 fun b51 => kIf b51
 (f129_1 x0 x2 x5 x9 x21 x22 x23 J3 Q w)
 (f129_3 x0 x2 x5 x9 Q w)
def f129 (x0 x1 x2 x3 : Value) (Q : PQ) (w : World) : Prop :=
 knew (Value.cells x1) 176 w fun v1 w2 =>
 kN x0 <|
 kfld 4 x0 fun v3 =>
 kld v3 w2 fun v4 =>
 kix (some (.slice 315)) (some 1) v4 x2 fun v5 =>
 kld v5 w2 fun v6 =>
 klen x3 fun v7 =>
 kL fun (I : Value → World → Prop) (μ : Value → World → Nat) => I (.int .i64 0) w2 ∧ ∀ (x23 : Value) (w1 : World), I x23 w1 →
 f129_0 x23 x0 x2 v1 v6 x3 v7 (fun y23 w2 => I y23 w2 ∧ μ y23 w2 < μ x23 w1) Q w1
theorem f129_ok {x0 x1 x2 x3 : Value} {Q : PQ} {w : World} (h : f129 x0 x1 x2 x3 Q w) : Meets Tryz.prog 129 #[x0, x1, x2, x3] w Q :=
 sound' (c := Tryz.f129.body.get rfl) [(3, [23])] Tryz.func129 rfl rfl (args := [x0, x1, x2, x3]) rfl (by kernel_rfl) h
def f185 (x0 : Value) (Q : PQ) (w : World) : Prop :=
 kcall Tryz.prog 214 #[x0, (.func (.func 215) #[] #[])] w fun v1 w2 =>
 Q (.tuple #[]) w2
theorem f185_ok {x0 : Value} {Q : PQ} {w : World} (h : f185 x0 Q w) : Meets Tryz.prog 185 #[x0] w Q :=
 sound' (c := Tryz.f185.body.get rfl) [] Tryz.func185 rfl rfl (args := [x0]) rfl (by kernel_rfl) h
def f215 (x0 x1 : Value) (Q : PQ) (w : World) : Prop :=
 knew (Value.cells x0) 102 w fun v1 w2 =>
 knew (Value.cells x1) 102 w2 fun v3 w4 =>
 kfld 0 v1 fun v5 =>
 kld v5 w4 fun v6 =>
 kfld 0 v3 fun v7 =>
 kld v7 w4 fun v8 =>
 kcall Tryz.prog 216 #[v6, v8] w4 fun v9 w10 =>
 Q v9 w10
theorem f215_ok {x0 x1 : Value} {Q : PQ} {w : World} (h : f215 x0 x1 Q w) : Meets Tryz.prog 215 #[x0, x1] w Q :=
 sound' (c := Tryz.f215.body.get rfl) [] Tryz.func215 rfl rfl (args := [x0, x1]) rfl (by kernel_rfl) h
def f126_4 (x0 x1 x4 x7 x10 x11 x12 : Value) (J3 : Value → Value → Value → World → Prop) (Q : PQ) (w : World) : Prop :=
 kint .i64 .add x12 (.int .i64 1) fun v25 =>
 J3 x4 x7 v25 w
def f126_3 (x0 x1 x4 x7 x9 x10 x11 x12 : Value) (J3 : Value → Value → Value → World → Prop) (Q : PQ) (w : World) : Prop :=
 kfld 0 x9 fun v21 =>
 kld v21 w fun v22 =>
 kcall Tryz.prog 113 #[x4, v22] w fun v23 w24 =>
 f126_4 x0 x1 v23 x7 x10 x11 x12 J3 Q w24
def f126_2 (x0 x1 x4 x7 x9 x10 x11 x12 : Value) (J3 : Value → Value → Value → World → Prop) (Q : PQ) (w : World) : Prop :=
 kB x7 fun b16 => kIf (!b16)
 (kfld 0 x9 fun v17 =>
 kld v17 w fun v18 =>
 kcall Tryz.prog 184 #[x4, v18] w fun v19 w20 =>
 f126_3 x0 x1 x4 v19 x9 x10 x11 x12 J3 Q w20)
 (f126_3 x0 x1 x4 (.bool true) x9 x10 x11 x12 J3 Q w)
def f126_1 (x0 x1 x4 x7 x10 x11 x12 : Value) (J3 : Value → Value → Value → World → Prop) (Q : PQ) (w : World) : Prop :=
 kix (some (.slice 102)) (some 6) x10 x12 fun v4 =>
 kldN 6 v4 w fun v5 =>
 knew #[.int .i64 0, .int .i64 0, .int .i64 0, .int .i64 0, .int .i64 0, .int .i64 0] 102 w fun v6 w7 =>
 kst 6 v6 v5 w7 fun w8 =>
 kldN 6 v6 w8 fun v9 =>
 kcall Tryz.prog 183 #[x0, v9] w8 fun v10 w11 =>
 kun .not (some .bool) v10 fun v12 =>
 kB v12 fun b26 => kIf b26
 (kld (.pointer (some ⟨2, 0, none⟩)) w11 fun v13 =>
 kcall Tryz.prog 115 #[v13] w11 fun v14 w15 =>
 Q (.tuple #[.int .u32 0, .slice none 0 0, v14]) w15)
 (f126_2 x0 x1 x4 x7 v6 x10 x11 x12 J3 Q w11)
def f126_6 (x1 x4 : Value) (Q : PQ) (w : World) : Prop :=
 kcall Tryz.prog 98 #[x1] w fun v30 w31 =>
 kcall Tryz.prog 185 #[v30] w31 fun v32 w33 =>
 Q (.tuple #[x4, v30, .nilIface]) w33
def f126_5 (x1 x4 x7 : Value) (Q : PQ) (w : World) : Prop :=
 kB x7 fun b34 => kIf b34
 (kld (.pointer (some ⟨1, 0, none⟩)) w fun v27 =>
 kcall Tryz.prog 115 #[v27] w fun v28 w29 =>
 Q (.tuple #[.int .u32 0, .slice none 0 0, v28]) w29)
 (f126_6 x1 x4 Q w)
def f126_0 (x4 x7 x12 x0 x1 x10 x11 : Value) (J3 : Value → Value → Value → World → Prop) (Q : PQ) (w : World) : Prop :=
 kint .i64 .lss x12 x11 fun v3 =>
 kB v3 fun b35 => kIf b35
 (f126_1 x0 x1 x4 x7 x10 x11 x12 J3 Q w)
 (f126_5 x1 x4 x7 Q w)
def f126 (x0 x1 : Value) (Q : PQ) (w : World) : Prop :=
 klen x1 fun v1 =>
 kL fun (I : Value → Value → Value → World → Prop) (μ : Value → Value → Value → World → Nat) => I (.int .u32 0) (.bool false) (.int .i64 0) w ∧ ∀ (x4 x7 x12 : Value) (w1 : World), I x4 x7 x12 w1 →
 f126_0 x4 x7 x12 x0 x1 x1 v1 (fun y4 y7 y12 w2 => I y4 y7 y12 w2 ∧ μ y4 y7 y12 w2 < μ x4 x7 x12 w1) Q w1
theorem f126_ok {x0 x1 : Value} {Q : PQ} {w : World} (h : f126 x0 x1 Q w) : Meets Tryz.prog 126 #[x0, x1] w Q :=
 sound' (c := Tryz.f126.body.get rfl) [(3, [4, 7, 12])] Tryz.func126 rfl rfl (args := [x0, x1]) rfl (by kernel_rfl) h
def f73_4 (x0 x4 x7 x9 x10 : Value) (Q : PQ) (w : World) : Prop :=
 kldN 2 x9 w.drew fun v57 =>
 kG (w.drew = w.drew) <|
 kldN 2 x9 w.drew fun v58 =>
 kG (w.drew = w.drew) <|
 kcall Tryz.prog 129 #[x0, v58, x10, x7] w.drew fun v59 w60 =>
 kG (kldN 2 x9 w60 fun v63 =>
 v63 = v57 ∧ w60 = w60) <|
 kst 2 x4 v57 w60 fun w61 =>
 kldN 2 x4 w61 fun v62 =>
 Q (.tuple #[v62, v59]) w61
def f73_3 (x0 x4 x7 x9 x10 : Value) (Q : PQ) (w : World) : Prop :=
 kcall Tryz.prog 118 #[x0] w fun v50 w51 =>
 keq Tryz.prog .neq 33 false true v50 .nilIface w51 fun v52 w53 =>
 kB v52 fun b64 => kIf b64
 (kbld [.int .i64 0, .int .i64 0] [] fun v54 =>
 kst 2 x4 v54 w53 fun w55 =>
 kldN 2 x4 w55 fun v56 =>
 Q (.tuple #[v56, v50]) w55)
 (f73_4 x0 x4 x7 x9 x10 Q w53)
def f73_2 (x0 x4 x6 x7 x9 : Value) (Q : PQ) (w : World) : Prop :=
 kN x0 <|
 kfld 3 x0 fun v37 =>
 kld v37 w fun v38 =>
 kcall Tryz.prog 128 #[v38, x6] w fun v39 w40 =>
 kext v39 0 fun v41 =>
 kext v39 1 fun v42 =>
 keq Tryz.prog .neq 33 false true v42 .nilIface w40 fun v43 w44 =>
 kB v43 fun b65 => kIf b65
 (kbld [.int .i64 0, .int .i64 0] [] fun v45 =>
 kcall Tryz.prog 115 #[v42] w44 fun v46 w47 =>
 kst 2 x4 v45 w47 fun w48 =>
 kldN 2 x4 w48 fun v49 =>
 Q (.tuple #[v49, v46]) w48)
 (f73_3 x0 x4 x7 x9 v41 Q w44)
def f73_1 (x0 x4 x6 x7 : Value) (Q : PQ) (w : World) : Prop :=
 kN x0 <|
 kfld 0 x0 fun v21 =>
 kld v21 w fun v22 =>
 kcall Tryz.prog 127 #[v22] w fun v23 w24 =>
 kext v23 0 fun v25 =>
 kext v23 1 fun v26 =>
 knew #[.int .i64 0, .int .i64 0] 176 w24 fun v27 w28 =>
 kst 2 v27 v25 w28 fun w29 =>
 keq Tryz.prog .neq 33 false true v26 .nilIface w29 fun v30 w31 =>
 kB v30 fun b66 => kIf b66
 (kbld [.int .i64 0, .int .i64 0] [] fun v32 =>
 kcall Tryz.prog 115 #[v26] w31 fun v33 w34 =>
 kst 2 x4 v32 w34 fun w35 =>
 kldN 2 x4 w35 fun v36 =>
 Q (.tuple #[v36, v33]) w35)
 (f73_2 x0 x4 x6 x7 v27 Q w31)
def f73_0 (x0 x1 x4 : Value) (Q : PQ) (w : World) : Prop :=
 kcall Tryz.prog 126 #[x0, x1] w fun v11 w12 =>
 kext v11 0 fun v13 =>
 kext v11 1 fun v14 =>
 kext v11 2 fun v15 =>
 keq Tryz.prog .neq 33 false true v15 .nilIface w12 fun v16 w17 =>
 kB v16 fun b67 => kIf b67
 (kbld [.int .i64 0, .int .i64 0] [] fun v18 =>
 kst 2 x4 v18 w17 fun w19 =>
 kldN 2 x4 w19 fun v20 =>
 Q (.tuple #[v20, v15]) w19)
 (f73_1 x0 x4 v13 v14 Q w17)
def f73 (x0 x1 : Value) (Q : PQ) (w : World) : Prop :=
 knew #[.int .i64 0, .int .i64 0] 176 w fun v1 w2 =>
 keq Tryz.prog .eql 147 false true x0 (.pointer none) w2 fun v3 w4 =>
 kB v3 fun b68 => kIf b68
 (kbld [.int .i64 0, .int .i64 0] [] fun v5 =>
 kld (.pointer (some ⟨4, 0, none⟩)) w4 fun v6 =>
 kcall Tryz.prog 115 #[v6] w4 fun v7 w8 =>
 kst 2 v1 v5 w8 fun w9 =>
 kldN 2 v1 w9 fun v10 =>
 Q (.tuple #[v10, v7]) w9)
 (f73_0 x0 x1 v1 Q w4)
theorem f73_ok {x0 x1 : Value} {Q : PQ} {w : World} (h : f73 x0 x1 Q w) : Meets Tryz.prog 73 #[x0, x1] w Q :=
 sound' (c := Tryz.f73.body.get rfl) [] Tryz.func73 rfl rfl (args := [x0, x1]) rfl (by kernel_rfl) h
def f133_0 (x0 x3 x4 : Value) (Q : PQ) (w : World) : Prop :=
 kN x0 <|
 kfld 5 x0 fun v23 =>
 kld v23 w.drew fun v24 =>
 kG (w.drew = w.drew) <|
 kfld 0 x3 fun v25 =>
 kld v25 w.drew fun v26 =>
 kG (w.drew = w.drew) <|
 kix (some (.slice 263)) (some 2) v24 v26 fun v27 =>
 kldN 2 v27 w.drew fun v28 =>
 kG (w.drew = w.drew) <|
 kst 2 x4 v28 w.drew fun w29 =>
 kldN 2 x4 w29 fun v30 =>
 Q (.tuple #[v30, .nilIface]) w29
def f133 (x0 x1 : Value) (Q : PQ) (w : World) : Prop :=
 knew (Value.cells x1) 176 w fun v1 w2 =>
 knew #[.int .i64 0, .int .i64 0] 263 w2 fun v3 w4 =>
 keq Tryz.prog .eql 147 false true x0 (.pointer none) w4 fun v5 w6 =>
 kB v5 fun b32 => kIf b32
 (kbld [.int .i64 0, .int .i64 0] [] fun v7 =>
 kld (.pointer (some ⟨4, 0, none⟩)) w6 fun v8 =>
 kcall Tryz.prog 115 #[v8] w6 fun v9 w10 =>
 kst 2 v3 v7 w10 fun w11 =>
 kldN 2 v3 w11 fun v12 =>
 Q (.tuple #[v12, v9]) w11)
 (kldN 2 v1 w6 fun v13 =>
 kcall Tryz.prog 189 #[x0, v13] w6 fun v14 w15 =>
 kun .not (some .bool) v14 fun v16 =>
 kB v16 fun b31 => kIf b31
 (kbld [.int .i64 0, .int .i64 0] [] fun v17 =>
 kld (.pointer (some ⟨16, 0, none⟩)) w15 fun v18 =>
 kcall Tryz.prog 115 #[v18] w15 fun v19 w20 =>
 kst 2 v3 v17 w20 fun w21 =>
 kldN 2 v3 w21 fun v22 =>
 Q (.tuple #[v22, v19]) w21)
 (f133_0 x0 v1 v3 Q w15))
theorem f133_ok {x0 x1 : Value} {Q : PQ} {w : World} (h : f133 x0 x1 Q w) : Meets Tryz.prog 133 #[x0, x1] w Q :=
 sound' (c := Tryz.f133.body.get rfl) [] Tryz.func133 rfl rfl (args := [x0, x1]) rfl (by kernel_rfl) h
def f229_1 (x9 x11 : Value) (Q : PQ) (w : World) : Prop :=
 kfld 1 x9 fun v28 =>
 kld v28 w.drew fun v29 =>
 kG (w.drew = w.drew) <|
 Q (.tuple #[x11, v29, .nilIface]) w.drew
def f229_0 (x0 x2 x9 : Value) (Q : PQ) (w : World) : Prop :=
 kN x0 <|
 kfld 4 x0 fun v13 =>
 kld v13 w.drew fun v14 =>
 kG (w.drew = w.drew) <|
 kfld 0 x9 fun v15 =>
 kld v15 w.drew fun v16 =>
 kG (w.drew = w.drew) <|
 kix (some (.slice 315)) (some 1) v14 v16 fun v17 =>
 kld v17 w.drew fun v18 =>
 kG (w.drew = w.drew) <|
 kN v18 <|
 kfld 1 v18 fun v19 =>
 kld v19 w.drew fun v20 =>
 kG (w.drew = w.drew) <|
 ksem Tryz.prog (Instr.lookup 316 v20 x2 false) w.drew fun v21 w22 =>
 kG (w22 = w.drew) <|
 keq Tryz.prog .eql 321 false true v21 (.pointer none) w22 fun v23 w24 =>
 kB v23 fun b30 => kIf b30
 (kld (.pointer (some ⟨12, 0, none⟩)) w24 fun v25 =>
 kcall Tryz.prog 115 #[v25] w24 fun v26 w27 =>
 Q (.tuple #[.pointer none, .int .i64 0, v26]) w27)
 (f229_1 x9 v21 Q w24)
def f229 (x0 x1 x2 : Value) (Q : PQ) (w : World) : Prop :=
 knew (Value.cells x1) 176 w fun v1 w2 =>
 kldN 2 v1 w2 fun v3 =>
 kcall Tryz.prog 133 #[x0, v3] w2 fun v4 w5 =>
 kext v4 0 fun v6 =>
 kext v4 1 fun v7 =>
 knew #[.int .i64 0, .int .i64 0] 263 w5 fun v8 w9 =>
 kst 2 v8 v6 w9 fun w10 =>
 keq Tryz.prog .neq 33 false true v7 .nilIface w10 fun v11 w12 =>
 kB v11 fun b31 => kIf b31
 (Q (.tuple #[.pointer none, .int .i64 0, v7]) w12)
 (f229_0 x0 x2 v8 Q w12)
theorem f229_ok {x0 x1 x2 : Value} {Q : PQ} {w : World} (h : f229 x0 x1 x2 Q w) : Meets Tryz.prog 229 #[x0, x1, x2] w Q :=
 sound' (c := Tryz.f229.body.get rfl) [] Tryz.func229 rfl rfl (args := [x0, x1, x2]) rfl (by kernel_rfl) h
def f196_0 (x3 x4 x5 x12 x14 x15 : Value) (Q : PQ) (w : World) : Prop :=
 kcall Tryz.prog 230 #[x14, x15, x3, x4, x5] w fun v16 w17 =>
 kext v16 0 fun v18 =>
 kext v16 1 fun v19 =>
 kst 6 x12 v18 w17 fun w20 =>
 kldN 6 x12 w20 fun v21 =>
 Q (.tuple #[v21, v19]) w20
def f196 (x0 x1 x2 x3 x4 x5 : Value) (Q : PQ) (w : World) : Prop :=
 knew (Value.cells x1) 176 w fun v1 w2 =>
 knew #[.int .i64 0, .int .i64 0, .int .i64 0, .int .i64 0, .int .i64 0, .int .i64 0] 102 w2 fun v3 w4 =>
 kldN 2 v1 w4 fun v5 =>
 kcall Tryz.prog 229 #[x0, v5, x2] w4 fun v6 w7 =>
 kext v6 0 fun v8 =>
 kext v6 1 fun v9 =>
 kext v6 2 fun v10 =>
 keq Tryz.prog .neq 33 false true v10 .nilIface w7 fun v11 w12 =>
 kB v11 fun b22 => kIf b22
 (kbld [.int .i64 0, .int .i64 0, .int .i64 0, .int .i64 0, .int .i64 0, .int .i64 0] [] fun v13 =>
 kst 6 v3 v13 w12 fun w14 =>
 kldN 6 v3 w14 fun v15 =>
 Q (.tuple #[v15, v10]) w14)
 (f196_0 x3 x4 x5 v3 v8 v9 Q w12)
theorem f196_ok {x0 x1 x2 x3 x4 x5 : Value} {Q : PQ} {w : World} (h : f196 x0 x1 x2 x3 x4 x5 Q w) : Meets Tryz.prog 196 #[x0, x1, x2, x3, x4, x5] w Q :=
 sound' (c := Tryz.f196.body.get rfl) [] Tryz.func196 rfl rfl (args := [x0, x1, x2, x3, x4, x5]) rfl (by kernel_rfl) h
def f225_0 (x6 x8 x9 : Value) (Q : PQ) (w : World) : Prop :=
 kcall Tryz.prog 243 #[x8, x9] w fun v16 w17 =>
 kext v16 0 fun v18 =>
 kext v16 1 fun v19 =>
 kst 6 x6 v18 w17 fun w20 =>
 kldN 6 x6 w20 fun v21 =>
 Q (.tuple #[v21, v19]) w20
def f225 (x0 x1 x2 : Value) (Q : PQ) (w : World) : Prop :=
 knew (Value.cells x1) 176 w fun v1 w2 =>
 knew #[.int .i64 0, .int .i64 0, .int .i64 0, .int .i64 0, .int .i64 0, .int .i64 0] 102 w2 fun v3 w4 =>
 kldN 2 v1 w4 fun v5 =>
 kcall Tryz.prog 229 #[x0, v5, x2] w4 fun v6 w7 =>
 kext v6 0 fun v8 =>
 kext v6 1 fun v9 =>
 kext v6 2 fun v10 =>
 keq Tryz.prog .neq 33 false true v10 .nilIface w7 fun v11 w12 =>
 kB v11 fun b22 => kIf b22
 (kbld [.int .i64 0, .int .i64 0, .int .i64 0, .int .i64 0, .int .i64 0, .int .i64 0] [] fun v13 =>
 kst 6 v3 v13 w12 fun w14 =>
 kldN 6 v3 w14 fun v15 =>
 Q (.tuple #[v15, v10]) w14)
 (f225_0 v3 v8 v9 Q w12)
theorem f225_ok {x0 x1 x2 : Value} {Q : PQ} {w : World} (h : f225 x0 x1 x2 Q w) : Meets Tryz.prog 225 #[x0, x1, x2] w Q :=
 sound' (c := Tryz.f225.body.get rfl) [] Tryz.func225 rfl rfl (args := [x0, x1, x2]) rfl (by kernel_rfl) h
def f189 (x0 x1 : Value) (Q : PQ) (w : World) : Prop :=
 knew (Value.cells x1) 176 w fun v1 w2 =>
 keq Tryz.prog .neq 147 false true x0 (.pointer none) w2.drew fun v3 w4 =>
 kG (w4 = w2.drew) <|
 kB v3 fun b5 => kIf b5
 (kN x0 <|
 kfld 0 x0 fun v6 =>
 kld v6 w4 fun v7 =>
 kG (w4 = w4) <|
 kldN 2 v1 w4 fun v8 =>
 kG (w4 = w4) <|
 kcall Tryz.prog 191 #[v7, v8] w4 fun v9 w10 =>
 Q v9 w10)
 (Q (.bool false) w4)
theorem f189_ok {x0 x1 : Value} {Q : PQ} {w : World} (h : f189 x0 x1 Q w) : Meets Tryz.prog 189 #[x0, x1] w Q :=
 sound' (c := Tryz.f189.body.get rfl) [] Tryz.func189 rfl rfl (args := [x0, x1]) rfl (by kernel_rfl) h
def f115 (x0 : Value) (Q : PQ) (w : World) : Prop :=
 kcall Tryz.prog 25 #[(.string ⟨#[115, 116, 111, 114, 101]⟩), x0] w fun v1 w2 =>
 Q v1 w2
theorem f115_ok {x0 : Value} {Q : PQ} {w : World} (h : f115 x0 Q w) : Meets Tryz.prog 115 #[x0] w Q :=
 sound' (c := Tryz.f115.body.get rfl) [] Tryz.func115 rfl rfl (args := [x0]) rfl (by kernel_rfl) h
def f216_0 (Q : PQ) (w : World) : Prop :=
 Q (.int .i64 (-1)) w
def f216_4 (Q : PQ) (w : World) : Prop :=
 Q (.int .i64 0) w
def f216_3 (x0 x1 : Value) (Q : PQ) (w : World) : Prop :=
 kint .i64 .gtr x0 x1 fun v7 =>
 kB v7 fun b8 => kIf b8
 (Q (.int .i64 1) w)
 (f216_4 Q w)
def f216_2 (x0 x1 : Value) (Q : PQ) (w : World) : Prop :=
 kint .i64 .lss x0 x1 fun v6 =>
 kB v6 fun b9 => kIf b9
 (Q (.int .i64 (-1)) w)
 (f216_3 x0 x1 Q w)
def f216_1 (x0 x1 x6 : Value) (Q : PQ) (w : World) : Prop :=
 kB x6 fun b10 => kIf b10
 (Q (.int .i64 1) w)
 (f216_2 x0 x1 Q w)
def f216 (x0 x1 : Value) (Q : PQ) (w : World) : Prop :=
 kcall Tryz.prog 241 #[x0] w fun v1 w2 =>
 kcall Tryz.prog 241 #[x1] w2 fun v3 w4 =>
 kB v1 fun b11 => kIf b11
 (kB v3 fun b5 => kIf b5
 (Q (.int .i64 0) w4)
 (f216_0 Q w4))
 (f216_1 x0 x1 v3 Q w4)
theorem f216_ok {x0 x1 : Value} {Q : PQ} {w : World} (h : f216 x0 x1 Q w) : Meets Tryz.prog 216 #[x0, x1] w Q :=
 sound' (c := Tryz.f216.body.get rfl) [] Tryz.func216 rfl rfl (args := [x0, x1]) rfl (by kernel_rfl) h
def f241 (x0 : Value) (Q : PQ) (w : World) : Prop :=
 kint .i64 .neq x0 x0 fun v1 =>
 Q v1 w
theorem f241_ok {x0 : Value} {Q : PQ} {w : World} (h : f241 x0 Q w) : Meets Tryz.prog 241 #[x0] w Q :=
 sound' (c := Tryz.f241.body.get rfl) [] Tryz.func241 rfl rfl (args := [x0]) rfl (by kernel_rfl) h
def f98_0 (x0 : Value) (Q : PQ) (w : World) : Prop :=
 kbldS [.int .i64 0, .int .i64 0, .int .i64 0, .int .i64 0, .int .i64 0, .int .i64 0] 0 [] 102 w fun v3 w4 =>
 ksem Tryz.prog (Builtin.append_ #[83, 83] 0 #[v3, x0]) w4 fun v5 w6 =>
 Q v5 w6
def f98 (x0 : Value) (Q : PQ) (w : World) : Prop :=
 keq Tryz.prog .eql 83 false true x0 (.slice none 0 0) w fun v1 w2 =>
 kB v1 fun b7 => kIf b7
 (Q (.slice none 0 0) w2)
 (f98_0 x0 Q w2)
theorem f98_ok {x0 : Value} {Q : PQ} {w : World} (h : f98 x0 Q w) : Meets Tryz.prog 98 #[x0] w Q :=
 sound' (c := Tryz.f98.body.get rfl) [] Tryz.func98 rfl rfl (args := [x0]) rfl (by kernel_rfl) h
def f65_0 (x0 : Value) (Q : PQ) (w : World) : Prop :=
 kbldS [(.string ⟨#[]⟩), .int .i64 0, .bool false, .int .i64 0, .int .i64 0, .int .i64 0, .int .i64 0] 0 [] 80 w fun v3 w4 =>
 ksem Tryz.prog (Builtin.append_ #[22, 22] 0 #[v3, x0]) w4 fun v5 w6 =>
 Q v5 w6
def f65 (x0 : Value) (Q : PQ) (w : World) : Prop :=
 keq Tryz.prog .eql 22 false true x0 (.slice none 0 0) w fun v1 w2 =>
 kB v1 fun b7 => kIf b7
 (Q (.slice none 0 0) w2)
 (f65_0 x0 Q w2)
theorem f65_ok {x0 : Value} {Q : PQ} {w : World} (h : f65 x0 Q w) : Meets Tryz.prog 65 #[x0] w Q :=
 sound' (c := Tryz.f65.body.get rfl) [] Tryz.func65 rfl rfl (args := [x0]) rfl (by kernel_rfl) h
def f66_0 (x0 : Value) (Q : PQ) (w : World) : Prop :=
 kbldS [(.string ⟨#[]⟩), .int .i64 0] 0 [] 82 w fun v3 w4 =>
 ksem Tryz.prog (Builtin.append_ #[23, 23] 0 #[v3, x0]) w4 fun v5 w6 =>
 Q v5 w6
def f66 (x0 : Value) (Q : PQ) (w : World) : Prop :=
 keq Tryz.prog .eql 23 false true x0 (.slice none 0 0) w fun v1 w2 =>
 kB v1 fun b7 => kIf b7
 (Q (.slice none 0 0) w2)
 (f66_0 x0 Q w2)
theorem f66_ok {x0 : Value} {Q : PQ} {w : World} (h : f66 x0 Q w) : Meets Tryz.prog 66 #[x0] w Q :=
 sound' (c := Tryz.f66.body.get rfl) [] Tryz.func66 rfl rfl (args := [x0]) rfl (by kernel_rfl) h
def f214 (x0 x1 : Value) (Q : PQ) (w : World) : Prop :=
 klen x0 fun v1 =>
 kcnv .u64 v1 fun v3 =>
 kcall Tryz.prog 240 #[v3] w fun v4 w5 =>
 kcall Tryz.prog 239 #[x0, .int .i64 0, v1, v4, x1] w5 fun v6 w7 =>
 Q (.tuple #[]) w7
theorem f214_ok {x0 x1 : Value} {Q : PQ} {w : World} (h : f214 x0 x1 Q w) : Meets Tryz.prog 214 #[x0, x1] w Q :=
 sound' (c := Tryz.f214.body.get rfl) [] Tryz.func214 rfl rfl (args := [x0, x1]) rfl (by kernel_rfl) h
end
section
def f240_0 (x0 : Value) (Q : PQ) (w : World) : Prop :=
 kcall Tryz.prog 235 #[x0] w fun v4 w5 =>
 Q v4 w5
def f240 (x0 : Value) (Q : PQ) (w : World) : Prop :=
 kB (.bool false) fun b6 => kIf b6
 (kcnv .u32 x0 fun v1 =>
 kcall Tryz.prog 255 #[v1] w fun v2 w3 =>
 Q v2 w3)
 (f240_0 x0 Q w)
theorem f240_ok {x0 : Value} {Q : PQ} {w : World} (h : f240 x0 Q w) : Meets Tryz.prog 240 #[x0] w Q :=
 sound' (c := Tryz.f240.body.get rfl) [] Tryz.func240 rfl rfl (args := [x0]) rfl (by kernel_rfl) h
def f235_2 (x0 x2 : Value) (Q : PQ) (w : World) : Prop :=
 kcnv .u8 x0 fun v9 =>
 kiv Tryz.prog (some .string) (.string ⟨#[0, 1, 2, 2, 3, 3, 3, 3, 4, 4, 4, 4, 4, 4, 4, 4, 5, 5, 5, 5, 5, 5, 5, 5, 5, 5, 5, 5, 5, 5, 5, 5, 6, 6, 6, 6, 6, 6, 6, 6, 6, 6, 6, 6, 6, 6, 6, 6, 6, 6, 6, 6, 6, 6, 6, 6, 6, 6, 6, 6, 6, 6, 6, 6, 7, 7, 7, 7, 7, 7, 7, 7, 7, 7, 7, 7, 7, 7, 7, 7, 7, 7, 7, 7, 7, 7, 7, 7, 7, 7, 7, 7, 7, 7, 7, 7, 7, 7, 7, 7, 7, 7, 7, 7, 7, 7, 7, 7, 7, 7, 7, 7, 7, 7, 7, 7, 7, 7, 7, 7, 7, 7, 7, 7, 7, 7, 7, 7, 8, 8, 8, 8, 8, 8, 8, 8, 8, 8, 8, 8, 8, 8, 8, 8, 8, 8, 8, 8, 8, 8, 8, 8, 8, 8, 8, 8, 8, 8, 8, 8, 8, 8, 8, 8, 8, 8, 8, 8, 8, 8, 8, 8, 8, 8, 8, 8, 8, 8, 8, 8, 8, 8, 8, 8, 8, 8, 8, 8, 8, 8, 8, 8, 8, 8, 8, 8, 8, 8, 8, 8, 8, 8, 8, 8, 8, 8, 8, 8, 8, 8, 8, 8, 8, 8, 8, 8, 8, 8, 8, 8, 8, 8, 8, 8, 8, 8, 8, 8, 8, 8, 8, 8, 8, 8, 8, 8, 8, 8, 8, 8, 8, 8, 8, 8, 8, 8, 8, 8, 8, 8, 8, 8, 8, 8, 8, 8]⟩) v9 fun v10 =>
 kcnv .i64 v10 fun v11 =>
 kint .i64 .add x2 v11 fun v12 =>
 Q v12 w
def f235_1 (x0 x2 : Value) (Q : PQ) (w : World) : Prop :=
 kint .u64 .geq x0 (.int .u64 256) fun v6 =>
 kB v6 fun b13 => kIf b13
 (kint .u64 .shr x0 (.int .u64 8) fun v7 =>
 kint .i64 .add x2 (.int .i64 8) fun v8 =>
 f235_2 v7 v8 Q w)
 (f235_2 x0 x2 Q w)
def f235_0 (x0 x2 : Value) (Q : PQ) (w : World) : Prop :=
 kint .u64 .geq x0 (.int .u64 65536) fun v3 =>
 kB v3 fun b14 => kIf b14
 (kint .u64 .shr x0 (.int .u64 16) fun v4 =>
 kint .i64 .add x2 (.int .i64 16) fun v5 =>
 f235_1 v4 v5 Q w)
 (f235_1 x0 x2 Q w)
def f235 (x0 : Value) (Q : PQ) (w : World) : Prop :=
 kint .u64 .geq x0 (.int .u64 4294967296) fun v1 =>
 kB v1 fun b15 => kIf b15
 (kint .u64 .shr x0 (.int .u64 32) fun v2 =>
 f235_0 v2 (.int .i64 32) Q w)
 (f235_0 x0 (.int .i64 0) Q w)
theorem f235_ok {x0 : Value} {Q : PQ} {w : World} (h : f235 x0 Q w) : Meets Tryz.prog 235 #[x0] w Q :=
 sound' (c := Tryz.f235.body.get rfl) [] Tryz.func235 rfl rfl (args := [x0]) rfl (by kernel_rfl) h
def f239_8 (x0 x1 x2 x3 x4 x12 x13 : Value) (J2 : Value → Value → Value → Value → Value → World → Prop) (Q : PQ) (w : World) : Prop :=
 kcall Tryz.prog 254 #[x0, x1, x2, x13, x4] w fun v40 w41 =>
 kext v40 0 fun v42 =>
 kext v40 1 fun v43 =>
 kint .i64 .sub v42 x1 fun v44 =>
 kint .i64 .sub x2 v42 fun v45 =>
 kint .i64 .quo x12 (.int .i64 8) fun v46 =>
 kint .i64 .lss v44 v45 fun v47 =>
 kB v47 fun b56 => kIf b56
 (kint .i64 .geq v44 v46 fun v48 =>
 kcall Tryz.prog 239 #[x0, x1, v42, x3, x4] w41 fun v49 w50 =>
 kint .i64 .add v42 (.int .i64 1) fun v51 =>
 J2 v51 x2 x3 v48 v43 w50)
 (kint .i64 .geq v45 v46 fun v52 =>
 kint .i64 .add v42 (.int .i64 1) fun v53 =>
 kcall Tryz.prog 239 #[x0, v53, x2, x3, x4] w41 fun v54 w55 =>
 J2 x1 v42 x3 v52 v43 w55)
def f239_7 (x0 x1 x2 x3 x4 x10 x11 x12 x13 x97 : Value) (J2 : Value → Value → Value → Value → Value → World → Prop) (Q : PQ) (w : World) : Prop :=
 kB x97 fun b57 => kIf b57
 (kcall Tryz.prog 253 #[x0, x1, x2, x13, x4] w fun v38 w39 =>
 J2 v38 x2 x3 x10 x11 w39)
 (f239_8 x0 x1 x2 x3 x4 x12 x13 J2 Q w)
def f239_6 (x0 x1 x2 x3 x4 x10 x11 x12 x13 : Value) (J2 : Value → Value → Value → Value → Value → World → Prop) (Q : PQ) (w : World) : Prop :=
 kint .i64 .gtr x1 (.int .i64 0) fun v27 =>
 kB v27 fun b28 => kIf b28
 (kint .i64 .sub x1 (.int .i64 1) fun v29 =>
 kix (some (.slice 102)) (some 6) x0 v29 fun v30 =>
 kldN 6 v30 w.drew fun v31 =>
 kG (w.drew = w.drew) <|
 kix (some (.slice 102)) (some 6) x0 x13 fun v32 =>
 kldN 6 v32 w.drew fun v33 =>
 kG (w.drew = w.drew) <|
 kcallV Tryz.prog x4 [v31, v33] w.drew fun v34 w35 =>
 kint .i64 .lss v34 (.int .i64 0) fun v36 =>
 kun .not (some .bool) v36 fun v37 =>
 f239_7 x0 x1 x2 x3 x4 x10 x11 x12 x13 v37 J2 Q w35)
 (f239_7 x0 x1 x2 x3 x4 x10 x11 x12 x13 (.bool false) J2 Q w.drew)
def f239_5 (x0 x1 x2 x3 x4 x10 x11 x12 x13 x75 : Value) (J2 : Value → Value → Value → Value → Value → World → Prop) (Q : PQ) (w : World) : Prop :=
 kB x75 fun b59 => kIf b59
 (kcall Tryz.prog 252 #[x0, x1, x2, x4] w fun v25 w26 =>
 kB v25 fun b58 => kIf b58
 (Q (.tuple #[]) w26)
 (f239_6 x0 x1 x2 x3 x4 x10 x11 x12 x13 J2 Q w26))
 (f239_6 x0 x1 x2 x3 x4 x10 x11 x12 x13 J2 Q w)
def f239_4 (x0 x1 x2 x3 x4 x10 x11 x12 x13 x14 : Value) (J2 : Value → Value → Value → Value → Value → World → Prop) (Q : PQ) (w : World) : Prop :=
 kB x10 fun b22 => kIf b22
 (kB x11 fun b23 => kIf b23
 (kint .i64 .eql x14 (.int .i64 1) fun v24 =>
 f239_5 x0 x1 x2 x3 x4 x10 x11 x12 x13 v24 J2 Q w)
 (f239_5 x0 x1 x2 x3 x4 x10 x11 x12 x13 (.bool false) J2 Q w))
 (f239_5 x0 x1 x2 x3 x4 x10 x11 x12 x13 (.bool false) J2 Q w)
def f239_3 (x0 x1 x2 x3 x4 x10 x11 x12 : Value) (J2 : Value → Value → Value → Value → Value → World → Prop) (Q : PQ) (w : World) : Prop :=
 kcall Tryz.prog 250 #[x0, x1, x2, x4] w fun v12 w13 =>
 kext v12 0 fun v14 =>
 kext v12 1 fun v15 =>
 kint .i64 .eql v15 (.int .i64 2) fun v16 =>
 kB v16 fun b60 => kIf b60
 (kcall Tryz.prog 251 #[x0, x1, x2, x4] w13 fun v17 w18 =>
 kint .i64 .sub x2 (.int .i64 1) fun v19 =>
 kint .i64 .sub v14 x1 fun v20 =>
 kint .i64 .sub v19 v20 fun v21 =>
 f239_4 x0 x1 x2 x3 x4 x10 x11 x12 v21 (.int .i64 1) J2 Q w18)
 (f239_4 x0 x1 x2 x3 x4 x10 x11 x12 v14 v15 J2 Q w13)
def f239_2 (x0 x1 x2 x3 x4 x10 x11 x12 : Value) (J2 : Value → Value → Value → Value → Value → World → Prop) (Q : PQ) (w : World) : Prop :=
 kun .not (some .bool) x10 fun v8 =>
 kB v8 fun b61 => kIf b61
 (kcall Tryz.prog 249 #[x0, x1, x2, x4] w fun v9 w10 =>
 kint .i64 .sub x3 (.int .i64 1) fun v11 =>
 f239_3 x0 x1 x2 v11 x4 x10 x11 x12 J2 Q w10)
 (f239_3 x0 x1 x2 x3 x4 x10 x11 x12 J2 Q w)
def f239_1 (x0 x1 x2 x3 x4 x10 x11 x12 : Value) (J2 : Value → Value → Value → Value → Value → World → Prop) (Q : PQ) (w : World) : Prop :=
 kint .i64 .eql x3 (.int .i64 0) fun v5 =>
 kB v5 fun b62 => kIf b62
 (kcall Tryz.prog 248 #[x0, x1, x2, x4] w fun v6 w7 =>
 Q (.tuple #[]) w7)
 (f239_2 x0 x1 x2 x3 x4 x10 x11 x12 J2 Q w)
def f239_0 (x1 x2 x3 x10 x11 x0 x4 : Value) (J2 : Value → Value → Value → Value → Value → World → Prop) (Q : PQ) (w : World) : Prop :=
 kint .i64 .sub x2 x1 fun v1 =>
 kint .i64 .leq v1 (.int .i64 12) fun v2 =>
 kB v2 fun b63 => kIf b63
 (kcall Tryz.prog 247 #[x0, x1, x2, x4] w fun v3 w4 =>
 Q (.tuple #[]) w4)
 (f239_1 x0 x1 x2 x3 x4 x10 x11 v1 J2 Q w)
def f239 (x0 x1 x2 x3 x4 : Value) (Q : PQ) (w : World) : Prop :=
 kL fun (I : Value → Value → Value → Value → Value → World → Prop) (μ : Value → Value → Value → Value → Value → World → Nat) => I x1 x2 x3 (.bool true) (.bool true) w ∧ ∀ (x1 x2 x3 x10 x11 : Value) (w1 : World), I x1 x2 x3 x10 x11 w1 →
 f239_0 x1 x2 x3 x10 x11 x0 x4 (fun y1 y2 y3 y10 y11 w2 => I y1 y2 y3 y10 y11 w2 ∧ μ y1 y2 y3 y10 y11 w2 < μ x1 x2 x3 x10 x11 w1) Q w1
theorem f239_ok {x0 x1 x2 x3 x4 : Value} {Q : PQ} {w : World} (h : f239 x0 x1 x2 x3 x4 Q w) : Meets Tryz.prog 239 #[x0, x1, x2, x3, x4] w Q :=
 sound' (c := Tryz.f239.body.get rfl) [(2, [1, 2, 3, 10, 11])] Tryz.func239 rfl rfl (args := [x0, x1, x2, x3, x4]) rfl (by kernel_rfl) h
def f247_5 (x0 x1 x2 x3 x8 x9 : Value) (J4 : Value → World → Prop) (J1 : Value → World → Prop) (Q : PQ) (w : World) : Prop :=
 kint .i64 .sub x9 (.int .i64 1) fun v23 =>
 J4 v23 w
def f247_4 (x0 x1 x2 x3 x8 x9 : Value) (J4 : Value → World → Prop) (J1 : Value → World → Prop) (Q : PQ) (w : World) : Prop :=
 kint .i64 .sub x9 (.int .i64 1) fun v13 =>
 kint .i64 .sub x9 (.int .i64 1) fun v14 =>
 kix (some (.slice 102)) (some 6) x0 v14 fun v15 =>
 kldN 6 v15 w.drew fun v16 =>
 kG (w.drew = w.drew) <|
 kix (some (.slice 102)) (some 6) x0 x9 fun v17 =>
 kldN 6 v17 w.drew fun v18 =>
 kG (w.drew = w.drew) <|
 kix (some (.slice 102)) (some 6) x0 x9 fun v19 =>
 kst 6 v19 v16 w.drew fun w20 =>
 kix (some (.slice 102)) (some 6) x0 v13 fun v21 =>
 kst 6 v21 v18 w20 fun w22 =>
 f247_5 x0 x1 x2 x3 x8 x9 J4 J1 Q w22
def f247_6 (x0 x1 x2 x3 x8 : Value) (J1 : Value → World → Prop) (Q : PQ) (w : World) : Prop :=
 kint .i64 .add x8 (.int .i64 1) fun v24 =>
 J1 v24 w
def f247_3 (x0 x1 x2 x3 x8 x9 x34 : Value) (J4 : Value → World → Prop) (J1 : Value → World → Prop) (Q : PQ) (w : World) : Prop :=
 kB x34 fun b25 => kIf b25
 (f247_4 x0 x1 x2 x3 x8 x9 J4 J1 Q w)
 (f247_6 x0 x1 x2 x3 x8 J1 Q w)
def f247_2 (x9 x0 x1 x2 x3 x8 : Value) (J4 : Value → World → Prop) (J1 : Value → World → Prop) (Q : PQ) (w : World) : Prop :=
 kint .i64 .gtr x9 x1 fun v3 =>
 kB v3 fun b4 => kIf b4
 (kix (some (.slice 102)) (some 6) x0 x9 fun v5 =>
 kldN 6 v5 w.drew fun v6 =>
 kG (w.drew = w.drew) <|
 kint .i64 .sub x9 (.int .i64 1) fun v7 =>
 kix (some (.slice 102)) (some 6) x0 v7 fun v8 =>
 kldN 6 v8 w.drew fun v9 =>
 kG (w.drew = w.drew) <|
 kcallV Tryz.prog x3 [v6, v9] w.drew fun v10 w11 =>
 kint .i64 .lss v10 (.int .i64 0) fun v12 =>
 f247_3 x0 x1 x2 x3 x8 x9 v12 J4 J1 Q w11)
 (f247_3 x0 x1 x2 x3 x8 x9 (.bool false) J4 J1 Q w.drew)
def f247_1 (x0 x1 x2 x3 x8 : Value) (J1 : Value → World → Prop) (Q : PQ) (w : World) : Prop :=
 kL fun (I : Value → World → Prop) (μ : Value → World → Nat) => I x8 w ∧ ∀ (x9 : Value) (w1 : World), I x9 w1 →
 f247_2 x9 x0 x1 x2 x3 x8 (fun y9 w2 => I y9 w2 ∧ μ y9 w2 < μ x9 w1) J1 Q w1
def f247_0 (x8 x0 x1 x2 x3 : Value) (J1 : Value → World → Prop) (Q : PQ) (w : World) : Prop :=
 kint .i64 .lss x8 x2 fun v2 =>
 kB v2 fun b26 => kIf b26
 (f247_1 x0 x1 x2 x3 x8 J1 Q w)
 (Q (.tuple #[]) w)
def f247 (x0 x1 x2 x3 : Value) (Q : PQ) (w : World) : Prop :=
 kint .i64 .add x1 (.int .i64 1) fun v1 =>
 kL fun (I : Value → World → Prop) (μ : Value → World → Nat) => I v1 w ∧ ∀ (x8 : Value) (w1 : World), I x8 w1 →
 f247_0 x8 x0 x1 x2 x3 (fun y8 w2 => I y8 w2 ∧ μ y8 w2 < μ x8 w1) Q w1
theorem f247_ok {x0 x1 x2 x3 : Value} {Q : PQ} {w : World} (h : f247 x0 x1 x2 x3 Q w) : Meets Tryz.prog 247 #[x0, x1, x2, x3] w Q :=
 sound' (c := Tryz.f247.body.get rfl) [(1, [8]), (4, [9])] Tryz.func247 rfl rfl (args := [x0, x1, x2, x3]) rfl (by kernel_rfl) h
end
end Go.Proofs.YtenokhokboicnaaGreatDoor
namespace Go.Proofs.YtenokhokboicnaaGreatDoor
open Go.Shelf
section
def sortPart_ren : Go.Shelf.Ren := ⟨fun | 6 => 214 | 15 => 240 | 14 => 239 | 28 => 255 | 29 => 235 | 20 => 247 | 21 => 248 | 22 => 249 | 23 => 250 | 24 => 251 | 25 => 252 | 26 => 253 | 27 => 254 | 46 => 256 | 47 => 257 | 48 => 258 | 49 => 259 | 50 => 260 | 57 => 261 | n => n, fun | 22 => 83 | 24 => 102 | 25 => 385 | 3 => 3 | 39 => 35 | 0 => 0 | 53 => 68 | 55 => 369 | 4 => 4 | 46 => 409 | 45 => 408 | 50 => 191 | 5 => 5 | 9 => 9 | 66 => 415 | 70 => 419 | 76 => 421 | 77 => 104 | n => n, fun | n => n⟩
theorem sortPart : Go.Proofs.SlLaysF0.n6 Tryz.prog sortPart_ren := {
 mixed := by kernel_rfl
 f6 := ⟨Tryz.f214.name, by decide, Tryz.func214.trans (congrArg some (by kernel_rfl))⟩
 f14 := ⟨Tryz.f239.name, by decide, Tryz.func239.trans (congrArg some (by kernel_rfl))⟩
 f15 := Tryz.func240.trans (congrArg some (by kernel_rfl))
 f20 := ⟨Tryz.f247.name, by decide, Tryz.func247.trans (congrArg some (by kernel_rfl))⟩
 f21 := ⟨Tryz.f248.name, by decide, Tryz.func248.trans (congrArg some (by kernel_rfl))⟩
 f22 := ⟨Tryz.f249.name, by decide, Tryz.func249.trans (congrArg some (by kernel_rfl))⟩
 f23 := ⟨Tryz.f250.name, by decide, Tryz.func250.trans (congrArg some (by kernel_rfl))⟩
 f24 := ⟨Tryz.f251.name, by decide, Tryz.func251.trans (congrArg some (by kernel_rfl))⟩
 f25 := ⟨Tryz.f252.name, by decide, Tryz.func252.trans (congrArg some (by kernel_rfl))⟩
 f26 := ⟨Tryz.f253.name, by decide, Tryz.func253.trans (congrArg some (by kernel_rfl))⟩
 f27 := ⟨Tryz.f254.name, by decide, Tryz.func254.trans (congrArg some (by kernel_rfl))⟩
 f28 := Tryz.func255.trans (congrArg some (by kernel_rfl))
 f29 := Tryz.func235.trans (congrArg some (by kernel_rfl))
 f46 := ⟨Tryz.f256.name, by decide, Tryz.func256.trans (congrArg some (by kernel_rfl))⟩
 f47 := Tryz.func257.trans (congrArg some (by kernel_rfl))
 f48 := Tryz.func258.trans (congrArg some (by kernel_rfl))
 f49 := ⟨Tryz.f259.name, by decide, Tryz.func259.trans (congrArg some (by kernel_rfl))⟩
 f50 := ⟨Tryz.f260.name, by decide, Tryz.func260.trans (congrArg some (by kernel_rfl))⟩
 f57 := ⟨Tryz.f261.name, by decide, Tryz.func261.trans (congrArg some (by kernel_rfl))⟩
 t0 := Tryz.underlying0
 a0 := Tryz.isAgg0
 z0 := Tryz.sizeOf0
 v0 := Tryz.zeroValue0
 t3 := Tryz.underlying3
 a3 := Tryz.isAgg3
 z3 := Tryz.sizeOf3
 v3 := Tryz.zeroValue3
 t4 := Tryz.underlying4
 a4 := Tryz.isAgg4
 z4 := Tryz.sizeOf4
 v4 := Tryz.zeroValue4
 t5 := Tryz.underlying5
 a5 := Tryz.isAgg5
 z5 := Tryz.sizeOf5
 v5 := Tryz.zeroValue5
 t9 := Tryz.underlying9
 a9 := Tryz.isAgg9
 z9 := Tryz.sizeOf9
 v9 := Tryz.zeroValue9
 t22 := Tryz.underlying83
 a22 := Tryz.isAgg83
 z22 := Tryz.sizeOf83
 v22 := Tryz.zeroValue83
 t25 := Tryz.underlying385
 a25 := Tryz.isAgg385
 z25 := Tryz.sizeOf385
 v25 := Tryz.zeroValue385
 t39 := Tryz.underlying35
 a39 := Tryz.isAgg35
 z39 := Tryz.sizeOf35
 v39 := Tryz.zeroValue35
 t45 := Tryz.underlying408
 a45 := Tryz.isAgg408
 z45 := Tryz.sizeOf408
 v45 := Tryz.zeroValue408
 t46 := Tryz.underlying409
 a46 := Tryz.isAgg409
 z46 := Tryz.sizeOf409
 v46 := Tryz.zeroValue409
 t50 := Tryz.underlying191
 a50 := Tryz.isAgg191
 z50 := Tryz.sizeOf191
 v50 := Tryz.zeroValue191
 t53 := Tryz.underlying68
 a53 := Tryz.isAgg68
 z53 := Tryz.sizeOf68
 v53 := Tryz.zeroValue68
 t55 := Tryz.underlying369
 a55 := Tryz.isAgg369
 z55 := Tryz.sizeOf369
 v55 := Tryz.zeroValue369
 t66 := Tryz.underlying415
 a66 := Tryz.isAgg415
 z66 := Tryz.sizeOf415
 v66 := Tryz.zeroValue415
 t70 := Tryz.underlying419
 a70 := Tryz.isAgg419
 z70 := Tryz.sizeOf419
 v70 := Tryz.zeroValue419
 t76 := Tryz.underlying421
 a76 := Tryz.isAgg421
 z76 := Tryz.sizeOf421
 v76 := Tryz.zeroValue421
 t77 := Tryz.underlying104
 a77 := Tryz.isAgg104
 z77 := Tryz.sizeOf104
 v77 := Tryz.zeroValue104 }
end
end Go.Proofs.YtenokhokboicnaaGreatDoor
namespace Go.Ev
open Go Go.RowKit Go.Sort Go.Proofs
section
section
variable {α : Type} [Inhabited α] {enc : α → List Value} {k : Nat}
theorem flatK_list (hk : ∀ x, (enc x).length = k) (L : List α) : (flatK enc k L.toArray).toList = L.flatMap enc := by
 apply List.ext_getElem?
 intro t
 rcases Nat.lt_or_ge t (L.length * k) with ht | ht
 ·have k0 : 0 < k := by
   rcases Nat.eq_zero_or_pos k with h | h
   ·subst h; simp at ht
   ·exact h
  have hi : t / k < L.length := Nat.div_lt_of_lt_mul (by rw [Nat.mul_comm]; exact ht)
  have hj : t % k < k := Nat.mod_lt _ k0
  have h1 := get_flatK enc k L.toArray t (by simpa using ht)
  have h2 := flat_cell hk hi hj
  rw [show t / k * k + t % k = t by rw [Nat.mul_comm]; exact Nat.div_add_mod t k] at h2
  rw [h2]
  have hs : t < (flatK enc k L.toArray).size := by simpa using ht
  rw [getElem!_pos _ t hs] at h1
  rw [Array.getElem?_toList, Array.getElem?_eq_getElem hs, h1]
  have e1 : L.toArray[t / k]! = L[t / k] := by rw [getElem!_pos _ _ (by simpa using hi)]; simp
  rw [e1, getElem!_pos _ _ (by rw [hk]; exact hj), List.getElem?_eq_getElem (by rw [hk]; exact hj)]
 ·rw [List.getElem?_eq_none (by simpa using ht), List.getElem?_eq_none (by rw [flat_len enc k hk]; exact ht)]
theorem putCells_list (F arr : Array Value) (off : Nat) (h : off + F.size ≤ arr.size) : putCells id off F arr = setAll F.toList arr off := by
 apply Array.ext'
 rw [setAll_list _ _ _ (by simpa using h)]
 apply List.ext_getElem?
 intro i
 have hl : (arr.toList.take off).length = off := by rw [List.length_take, Array.length_toList]; omega
 unfold putCells
 rw [Array.getElem?_toList, Array.getElem?_mapIdx, List.append_assoc]
 rcases Nat.lt_or_ge i off with h1 | h1
 ·rw [List.getElem?_append_left (by omega), List.getElem?_take_of_lt h1]
  have hi : i < arr.size := by omega
  rw [Array.getElem?_eq_getElem hi, Option.map_some, if_neg (by omega)]
  simp [hi]
 ·rw [List.getElem?_append_right (by omega), hl]
  rcases Nat.lt_or_ge i (off + F.size) with h2 | h2
  ·rw [List.getElem?_append_left (by rw [Array.length_toList]; omega)]
   have hi : i < arr.size := by omega
   rw [Array.getElem?_eq_getElem hi, Option.map_some, if_pos ⟨h1, h2⟩, getElem!_pos F (i - off) (by omega), Array.getElem?_toList, Array.getElem?_eq_getElem (show i - off < F.size by omega)]
   rfl
  ·rw [List.getElem?_append_right (by rw [Array.length_toList]; omega), List.getElem?_drop, Array.length_toList, show off + F.size + (i - off - F.size) = i by omega]
   by_cases hi : i < arr.size
   ·rw [Array.getElem?_eq_getElem hi, Option.map_some, if_neg (by omega)]
    simp [hi]
   ·rw [Array.getElem?_eq_none (by omega), Option.map_none, List.getElem?_eq_none (by rw [Array.length_toList]; omega)]
theorem mapBlock_blk (w : World) (b : Nat) (f : Array Value → Array Value) (i : Nat) : blk (mapBlock w b f) i = if i = b then (blk w i).map (fun o => match o with | .cells c t fr => .cells (f c) t fr | o => o) else blk w i := by
 unfold mapBlock blk
 simp only [Array.getElem?_modify]
 by_cases h : b = i
 ·subst h
  simp only [if_true]
  cases w.heap[b]? with
  | none => rfl
  | some o => cases o <;> rfl
 ·rw [if_neg h, if_neg (fun e => h e.symm)]
theorem sortW_mod {w : World} {b n : Nat} {arr : Array Value} {t : TypeId} (hb : blk w b = some (.cells arr t)) (d : Array α) (os : Array Obj) (hs : (flatK enc k d).size ≤ arr.size) :
  Mod (fun i => i = b) w (sortWorldK enc k w b 0 n d os) ∧ blk (sortWorldK enc k w b 0 n d os) b = some (.cells (setAll (flatK enc k d).toList arr 0) t) := by
 have hlt := lt_of_blk hb
 have hsz : (mapBlock (Sort.ahead w n) b (putCells id 0 (flatK enc k d))).heap.size = w.heap.size := by unfold mapBlock Sort.ahead; simp
 have hg : ∀ i, i < w.heap.size → blk (sortWorldK enc k w b 0 n d os) i = blk (mapBlock (Sort.ahead w n) b (putCells id 0 (flatK enc k d))) i := by
  intro i hi
  unfold sortWorldK putRowK putRow grow blk
  rw [Array.getElem?_append_left (by rw [hsz]; exact hi)]
 have ha : ∀ i, blk (Sort.ahead w n) i = blk w i := fun _ => rfl
 refine ⟨⟨rfl, rfl, rfl, ?_, fun i hi hne => ?_⟩, ?_⟩
 ·unfold sortWorldK putRowK putRow grow
  rw [Array.size_append, hsz]; omega
 ·rw [hg i hi, mapBlock_blk, if_neg hne, ha]
 ·rw [hg b hlt, mapBlock_blk, if_pos rfl, ha, hb]
  show some (Obj.cells (putCells id 0 (flatK enc k d) arr) t (0, 0)) = _
  rw [putCells_list _ _ _ (by omega)]
theorem sort_meets {P : Program} {f : FuncId} {cl : Value} {lt : α → α → Bool} (hc : callable P f = true) (hk : ∀ x, (enc x).length = k) (hk0 : 0 < k) {w : World} {b n c : Nat} {L : List α} (hO : Own w (.slice (some ⟨b, 0, none⟩) n c) k (L.flatMap enc))
  (h : HoldsK enc k w b 0 L.toArray → b < w.heap.size → Calls P f #[.slice (some ⟨b, 0, none⟩) L.toArray.size c, cl] w fun e w' => e = .returned (.tuple #[]) ∧ ∃ d' m os, PermIn 0 L.toArray.size L.toArray d' ∧ SortedIn lt 0 L.toArray.size d' ∧ w' = sortWorldK enc k w b 0 m d' os) :
  Meets P f #[.slice (some ⟨b, 0, none⟩) n c, cl] w fun _ w' => ∃ L' : List α, L'.Perm L ∧ L'.Pairwise (fun x y => lt y x = false) ∧ Own w' (.slice (some ⟨b, 0, none⟩) n c) k (L'.flatMap enc) ∧ Mod (fun i => i = b) w w' := by
 have hO' := hO
 obtain ⟨a, n', c', e, h1, h2, h3, h4⟩ := hO'
 cases e
 have hn : n = L.length := by
  rw [flat_len enc k hk] at h1
  exact (Nat.eq_of_mul_eq_mul_right hk0 h1).symm
 subst hn
 rcases h4 with ⟨h4, _⟩ | ⟨b', arr, t, e, hb, hs, h5⟩
 ·cases h4
 ·cases e
  have hle : L.length * k ≤ arr.size := by rw [hs]; exact Nat.mul_le_mul_right _ h2
  have hH : HoldsK enc k w b 0 L.toArray := by
   intro j hj
   rw [size_flatK] at hj
   have hj : j < L.length * k := by simpa using hj
   have hfs : j < (flatK enc k L.toArray).size := by simpa using hj
   refine ⟨?_, by simp [World.frozen?, show w.heap[b]? = _ from hb]⟩
   have e1 := congrArg (fun l : List Value => l[j]?) h5
   rw [← flatK_list hk L] at e1
   simp only [List.getElem?_take_of_lt hj] at e1
   rw [cell_mk, hb, cellO_some, Nat.zero_add, getElem!_pos _ j hfs]
   rw [Array.getElem?_toList, Array.getElem?_toList, Array.getElem?_eq_getElem hfs] at e1
   exact e1
  refine ⟨hc, ((h hH (lt_of_blk hb)).mono ?_)⟩
  rintro e w' ⟨rfl, d', m, os, hp, hsd, rfl⟩
  obtain ⟨p1, p2, p3⟩ := hp
  have hsz : d'.size = L.length := by simpa using p1
  have hx : d'.extract 0 L.toArray.size = d' := by
   rw [List.size_toArray, ← hsz]; exact Array.extract_size
  have hx2 : L.toArray.extract 0 L.toArray.size = L.toArray := Array.extract_size
  rw [hx, hx2] at p3
  obtain ⟨q1, q2⟩ := sortW_mod (enc := enc) (k := k) (n := m) hb d' os (by rw [size_flatK, hsz]; exact hle)
  refine ⟨_, rfl, d'.toList, by simpa using p3, ?_, ?_, q1⟩
  ·rw [List.pairwise_iff_getElem]
   intro i j hi hj hlt
   have hi' : i < d'.size := by simpa using hi
   have hj' : j < d'.size := by simpa using hj
   have := hsd i j (by omega) hlt (by simp; omega)
   rw [getElem!_pos d' i hi', getElem!_pos d' j hj'] at this
   simpa using this
  ·have hd : d' = d'.toList.toArray := rfl
   have hf := flatK_list hk d'.toList
   rw [← hd] at hf
   rw [hf] at q2
   have := hO.put (us := d'.toList.flatMap enc) (j := 0) hb q2 (by rw [flat_len enc k hk, flat_len enc k hk]; simp [hsz])
   rw [List.take_zero, List.nil_append, Nat.zero_add, List.drop_of_length_le (by rw [flat_len enc k hk, flat_len enc k hk]; simp [hsz]), List.append_nil] at this
   exact this
end
end
end Go.Ev
namespace Go.Proofs.YtenokhokboicnaaGreatDoor
open Go Go.Ev Go.Sort
section
attribute [local irreducible] kO kB kStr kInt kN kG kIf kfld kld kldN kst knew kmap kbld kbldS kext kcnv klenStr klen kcap kprt kprtN kbool kint kstr keq kun ksl kix kiv kta kmk kmm ksem ksemU kextf kcallV kcallM kcall kL
def cmpI (x y : Int) : Int := if x < y then -1 else if y < x then 1 else 0
theorem isNaN_spec (x : Int) (w : World) : Meets Tryz.prog 241 #[.int .i64 x] w fun v w' => v = .bool false ∧ w' = w := by
 refine f241_ok ?_
 unfold f241
 refine neq_at ?_
 exact ⟨by simp, rfl⟩
theorem cmp_spec (x y : Int) (w : World) : Meets Tryz.prog 216 #[.int .i64 x, .int .i64 y] w fun v w' => v = .int .i64 (cmpI x y) ∧ w' = w := by
 refine f216_ok ?_
 unfold f216
 refine kcall_of (isNaN_spec x w) ?_
 rintro v w2 ⟨rfl, rfl⟩
 refine kcall_of (isNaN_spec y w2) ?_
 rintro v w4 ⟨rfl, rfl⟩
 refine kB_at ?_
 refine kIf_F rfl ?_
 refine kB_at ?_
 refine kIf_F rfl ?_
 refine lss_at ?_
 refine kB_at ?_
 unfold cmpI
 refine kIf_dec (fun h => ?_) (fun h => ?_)
 ·rw [if_pos h]; exact ⟨rfl, rfl⟩
 ·rw [if_neg h]
  unfold f216_3
  refine gtr_at ?_
  refine kB_at ?_
  refine kIf_dec (fun h => ?_) (fun h => ?_)
  ·rw [if_pos h]; exact ⟨rfl, rfl⟩
  ·rw [if_neg h]; exact ⟨rfl, rfl⟩
theorem ltI (x y : Int) : decide (cmpI x y < 0) = decide (x < y) := by
 unfold cmpI
 by_cases h1 : x < y
 ·simp [h1]
 ·by_cases h2 : y < x <;> simp [h1, h2]
theorem len64_0 (w : World) : Meets Tryz.prog 235 #[.int .u64 0] w fun v w' => v = .int .i64 0 ∧ w' = w := by
 refine f235_ok ?_
 unfold f235
 refine geq_at ?_
 refine kB_at ?_
 refine kIf_F rfl ?_
 refine geq_at ?_
 refine kB_at ?_
 refine kIf_F rfl ?_
 refine geq_at ?_
 refine kB_at ?_
 refine kIf_F rfl ?_
 unfold f235_2
 rw [kcnv_int, show IntKind.u8.wrap 0 = 0 by decide, kiv_string]
 refine kG_of (by decide) ?_
 refine kO_of (a := 0) rfl ?_
 rw [kcnv_int, show IntKind.i64.wrap ((UInt8.toNat 0 : Nat) : Int) = 0 by decide]
 refine add_at (by omega) (by omega) ?_
 exact ⟨rfl, rfl⟩
theorem len_0 (w : World) : Meets Tryz.prog 240 #[.int .u64 0] w fun v w' => v = .int .i64 0 ∧ w' = w := by
 refine f240_ok ?_
 unfold f240
 refine kB_at ?_
 refine kIf_F rfl ?_
 unfold f240_0
 refine kcall_of (len64_0 w) ?_
 intro v w' h
 exact h
instance : Inhabited Part := ⟨⟨0, 0, 0, 0, 0, 0⟩⟩
def entC (x : Int × Int) : List Value := [nV x.1, nV x.2]
theorem grow_two (w : World) (a b : Obj) : (w.alloc a).alloc b = grow w #[a, b] := by
 rw [alloc_eq_grow, alloc_eq_grow, grow_grow]; rfl
theorem cloP_spec (x y : Part) (w : World) : Meets Tryz.prog 215 #[.agg (Part.cells x).toArray, .agg (Part.cells y).toArray] w fun v w' => v = .int .i64 (cmpI (Part.comp x) (Part.comp y)) ∧ w' = grow w #[.cells (Part.cells x).toArray 102, .cells (Part.cells y).toArray 102] := by
 refine f215_ok ?_
 unfold f215
 rw [knew_eq, knew_eq]
 rw [← grow_two]
 have h1 : blk ((w.alloc (.cells (Value.agg (Part.cells x).toArray).cells 102)).alloc (.cells (Value.agg (Part.cells y).toArray).cells 102)) w.heap.size = some (.cells (Part.cells x).toArray 102) := by
  rw [alloc_heap_old (by simp), alloc_heap_new]; rfl
 have h2 : blk ((w.alloc (.cells (Value.agg (Part.cells x).toArray).cells 102)).alloc (.cells (Value.agg (Part.cells y).toArray).cells 102)) (w.alloc (.cells (Value.agg (Part.cells x).toArray).cells 102)).heap.size = some (.cells (Part.cells y).toArray 102) := by
  rw [alloc_heap_new]; rfl
 refine kfld_of ?_
 refine kld_of (v := .int .i64 (Part.comp x)) h1 rfl ?_
 refine kfld_of ?_
 refine kld_of (v := .int .i64 (Part.comp y)) h2 rfl ?_
 refine kcall_of (cmp_spec _ _ _) ?_
 rintro v w' ⟨rfl, rfl⟩
 exact ⟨rfl, rfl⟩
def ltP (x y : Part) : Bool := ltOf (fun x y : Part => cmpI (Part.comp x) (Part.comp y)) x y
theorem ltP_eq (x y : Part) : ltP x y = decide (Part.comp x < Part.comp y) := by
 show decide (cmpI (Part.comp x) (Part.comp y) < 0) = _
 exact ltI _ _
theorem swoP : SWO (ltOf fun x y : Part => cmpI (Part.comp x) (Part.comp y)) where
 irrefl x := by
  show ltP x x = false
  rw [ltP_eq]; simp
 trans x y z h1 h2 := by
  change ltP x y = true at h1
  change ltP y z = true at h2
  show ltP x z = true
  rw [ltP_eq] at *; simp at *; omega
 ntrans x y z h1 h2 := by
  change ltP x y = false at h1
  change ltP y z = false at h2
  show ltP x z = false
  rw [ltP_eq] at *; simp at *; omega
theorem insP_nil (w : World) (cl : Value) : Meets Tryz.prog 247 #[.slice none 0 0, .int .i64 0, .int .i64 0, cl] w fun v w' => v = .tuple #[] ∧ w' = w := by
 refine f247_ok ?_
 unfold f247
 refine add_at (by omega) (by omega) ?_
 refine kL1_of 0 (fun i x wr => x = .int .i64 1 ∧ wr = w) ⟨lI1_0 ⟨rfl, rfl⟩, fun x wr hx => ?_⟩
 obtain ⟨i, hi, ⟨rfl, rfl⟩, hJ⟩ := lI1_step hx
 unfold f247_0
 refine lss_at ?_
 refine kB_at ?_
 refine kIf_F rfl ?_
 exact ⟨rfl, rfl⟩
def pdqInvP (w : World) (x1 x2 x3 x10 x11 : Value) (wr : World) : Prop := x1 = .int .i64 0 ∧ x2 = .int .i64 0 ∧ wr = w
theorem pdqP_nil (w : World) (cl : Value) (l : Value) : Meets Tryz.prog 239 #[.slice none 0 0, .int .i64 0, .int .i64 0, l, cl] w fun v w' => v = .tuple #[] ∧ w' = w := by
 refine f239_ok ?_
 unfold f239
 refine kL_of (pdqInvP w) (fun _ _ _ _ _ _ => 0) ⟨⟨rfl, rfl, rfl⟩, ?_⟩
 rintro x1 x2 x3 x10 x11 wr ⟨rfl, rfl, rfl⟩
 unfold f239_0
 refine sub_at (by omega) (by omega) ?_
 refine leq_at ?_
 refine kB_at ?_
 refine kIf_T rfl ?_
 refine kcall_of (insP_nil wr cl) ?_
 rintro v w' ⟨rfl, rfl⟩
 exact ⟨rfl, rfl⟩
theorem sortP_nil (w : World) (cl : Value) : Meets Tryz.prog 214 #[.slice none 0 0, cl] w fun v w' => v = .tuple #[] ∧ w' = w := by
 refine f214_ok ?_
 unfold f214
 refine klen_at ?_
 rw [kcnv_int, show IntKind.u64.wrap ((0 : Nat) : Int) = 0 by decide]
 refine kcall_of (len_0 w) ?_
 rintro v w5 ⟨rfl, rfl⟩
 refine kcall_of (pdqP_nil w5 cl _) ?_
 rintro v w7 ⟨rfl, rfl⟩
 exact ⟨rfl, rfl⟩
theorem sortP_spec {w : World} {v : Value} {L : List Part} (hO : Own w v 6 (L.flatMap Part.cells)) (hl : L.length < 4611686018427387904) :
  Meets Tryz.prog 214 #[v, .func (.func 215) #[] #[]] w fun _ w' => ∃ L' : List Part, L'.Perm L ∧ L'.Pairwise (fun x y => Part.comp x ≤ Part.comp y) ∧ Own w' v 6 (L'.flatMap Part.cells) ∧ Mod (vblk v) w w' := by
 have hO' := hO
 obtain ⟨a, n, c, rfl, h1, h2, h3, h4⟩ := hO'
 rcases h4 with ⟨rfl, hc0⟩ | ⟨b, arr, t, rfl, hb, hs, h5⟩
 ·obtain rfl : c = 0 := hc0
  obtain rfl : n = 0 := by omega
  have hL : L = [] := by
   rw [flat_len Part.cells 6 (fun _ => rfl)] at h1
   exact List.eq_nil_of_length_eq_zero (by omega)
  subst hL
  refine (sortP_nil w _).mono ?_
  rintro v w' ⟨rfl, rfl⟩
  exact ⟨[], List.Perm.refl _, List.Pairwise.nil, Own.nil _ _, Mod.refl _ _⟩
 ·have eg : ∀ args w, (callFunc 215 args).run Tryz.prog w = .ok (.enter 215 args) w := Go.Proofs.enters_of Tryz.func215 (by kernel_rfl) rfl
  refine (sort_meets (enc := Part.cells) (k := 6) (lt := ltOf fun x y : Part => cmpI (Part.comp x) (Part.comp y)) (by kernel_rfl) (fun _ => rfl) (by omega) hO (fun hH hlt => ?_)).mono ?_
  ·have hcmp : CmpLays Tryz.prog 215 #[] Part.cells 6 (fun x y : Part => cmpI (Part.comp x) (Part.comp y)) b 0 L.toArray.size w := by
    intro m os dk hdk x y
    refine ((cloP_spec x y _).2).mono ?_
    rintro e w' ⟨v, rfl, rfl, rfl⟩
    exact ⟨rfl, 0, _, rfl⟩
   have := AnyQ.slices_SortFunc sortPart 6 Tryz.isAgg102 Tryz.sizeOf102 Part.cells (fun _ => rfl) (fun x v hv => by
    simp [Part.cells] at hv
    rcases hv with rfl | rfl | rfl | rfl | rfl | rfl <;> rfl) (fun x y : Part => cmpI (Part.comp x) (Part.comp y)) swoP 215 #[] b 0 c L.toArray w eg hcmp hH hlt (by simpa using hl)
   exact this
  ·rintro v w' ⟨L', g1, g2, g3, g4⟩
   refine ⟨L', g1, g2.imp (fun {x y} hxy => ?_), g3, g4.mono fun k _ e => by subst e; exact ⟨_, _, _, rfl⟩⟩
   change ltP y x = false at hxy
   rw [ltP_eq] at hxy
   simp at hxy
   omega
theorem sorted_spec {w : World} {v : Value} {L : List Part} (hO : Own w v 6 (L.flatMap Part.cells)) (hl : L.length < 4611686018427387904) :
  Meets Tryz.prog 185 #[v] w fun _ w' => ∃ L' : List Part, L'.Perm L ∧ L'.Pairwise (fun x y => x.comp ≤ y.comp) ∧ Own w' v 6 (L'.flatMap Part.cells) ∧ Mod (vblk v) w w' := by
 refine f185_ok ?_
 unfold f185
 refine kcall_of (sortP_spec hO hl) ?_
 intro v w' h
 exact h
end
end Go.Proofs.YtenokhokboicnaaGreatDoor
namespace Go.Proofs.YtenokhokboicnaaGreatDoor
open Go Go.Ev
section
attribute [local irreducible] kO kB kStr kInt kN kG kIf kfld kld kldN kst knew kmap kbld kbldS kext kcnv klenStr klen kcap kprt kprtN kbool kint kstr keq kun ksl kix kiv kta kmk kmm ksem ksemU kextf kcallV kcallM kcall kL
theorem ptSto : isPtrT Tryz.prog 147 = true := by kernel_rfl
theorem zCol : zeroO Tryz.prog 321 = some (.pointer none) := by kernel_rfl
structure TabM where
 rows : List (Int × Int)
 col : Nat → List Part
def TabM.empty : TabM := ⟨[], fun _ => []⟩
structure SM where
 gens : List (Int × Bool)
 free : List Nat
 cs : List Comp
 masks : List Nat
 tabs : List TabM
 spots : List (Nat × Nat)
def GoodC (cs : List Comp) : Prop := cs.length ≤ 16 ∧ ∀ c ∈ cs, 1 ≤ c.width ∧ c.width ≤ 4
def wdF (cs : List Comp) (c : Nat) : Nat := match cs[c]? with
 | some x => x.width.toNat
 | none => 1
def compsM (masks : List Nat) (i : Nat) : List Nat := match masks[i]? with
 | some m => listF m
 | none => []
def spotC (x : Nat × Nat) : List Value := [natV x.1, natV x.2]
def tabTag (i : Nat) (t : Tag) : Prop := t = .table i ∨ t = .trows i ∨ t = .tmap i ∨ ∃ c, colTag i c t
def TabAt (o : Lab) (w : World) (b i : Nat) (comps : List Nat) (wd : Nat → Nat) (pc : Nat → Nat) (T : TabM) : Prop :=
 o b = some (.table i) ∧ ∃ rv bm, blk w b = some (.cells #[rv, .map (some bm)] 319) ∧ Own w rv 2 (T.rows.flatMap entC) ∧ (∀ k, vblk rv k → o k = some (.trows i)) ∧ o bm = some (.tmap i) ∧
  MapIs w bm .i64 (comps.map fun (c : Nat) => ((c : Int), ptrV (pc c))) ∧ ∀ c ∈ comps, ColAt o w (pc c) i c (wd c) (T.col c)
theorem TabAt.frame {o o' : Lab} {w w' : World} {b i : Nat} {comps : List Nat} {wd pc : Nat → Nat} {T : TabM} (h : TabAt o w b i comps wd pc T) {fp : Nat → Prop} (hm : Mod fp w w') (hf : ∀ k t, o k = some t → tabTag i t → ¬ fp k) (ho : LabEq w o o') : TabAt o' w' b i comps wd pc T := by
 obtain ⟨h1, rv, bm, hb, hr, hrl, hbm, hM, hC⟩ := h
 refine ⟨by rw [ho b (lt_of_blk hb)]; exact h1, rv, bm, hm.get hb (hf b _ h1 (.inl rfl)), hr.mod hm fun k hk => hf k _ (hrl k hk) (.inr (.inl rfl)), fun k hk => by rw [ho k (hr.vblk_lt hk)]; exact hrl k hk, by rw [ho bm (lt_of_blk hM)]; exact hbm, hM.mod hm (hf bm _ hbm (.inr (.inr (.inl rfl)))), fun c hc => (hC c hc).frame hm (fun k t e1 e2 => hf k t e1 (.inr (.inr (.inr ⟨c, e2⟩)))) ho⟩
theorem lk_comps (f : Nat → Value) (c : Nat) : ∀ comps : List Nat, lkI (c : Int) (comps.map fun (c : Nat) => ((c : Int), f c)) = if c ∈ comps then some (comps.idxOf c, f c) else none
 | [] => by simp [lkI]
 | x :: r => by
  simp only [List.map_cons, lkI]
  by_cases h : c = x
  ·subst h; simp
  ·rw [if_neg (by omega), lk_comps f c r]
   have hx : (x == c) = false := by simpa using fun e => h e.symm
   by_cases hr : c ∈ r
   ·simp [hr, h, List.idxOf_cons, hx]
   ·simp [hr, h]
structure Ptrs where
 bR : Nat
 bA : Nat
 ca : Option Addr
 cc : Nat
 rv : Value
 tv : Value
 sv : Value
 pt : Nat → Nat
 pc : Nat → Nat → Nat
structure StoreP (o : Lab) (w : World) (b : Nat) (p : Ptrs) (S : SM) : Prop where
 lab : o b = some .store
 good : GoodC S.cs
 tle : S.tabs.length ≤ S.masks.length
 mle : S.masks.length ≤ 90000
 sle : S.spots.length ≤ 64
 here : blk w b = some (.cells #[ptrV p.bR, .slice p.ca S.cs.length p.cc, p.rv, ptrV p.bA, p.tv, p.sv] 243)
 roll : RollAt o w p.bR S.gens S.free
 atlas : AtlasAt o w p.bA S.cs.length S.masks
 sch : SlIs w p.ca S.cs.length 7 (S.cs.flatMap Comp.cells)
 schl : ∀ k f, p.ca = some ⟨k, f, none⟩ → o k = some .sch ∧ k < w.heap.size
 tabs : Own w p.tv 1 ((List.range S.tabs.length).map fun i => ptrV (p.pt i))
 tabsl : ∀ k, vblk p.tv k → o k = some .tabs
 spots : Own w p.sv 2 (S.spots.flatMap spotC)
 spotsl : ∀ k, vblk p.sv k → o k = some .spots
 tab : ∀ i (hi : i < S.tabs.length), TabAt o w (p.pt i) i (compsM S.masks i) (wdF S.cs) (p.pc i) S.tabs[i]
theorem StoreP.frame {o o' : Lab} {w w' : World} {b : Nat} {p : Ptrs} {S : SM} (h : StoreP o w b p S) {fp : Nat → Prop} (hm : Mod fp w w') (hf : ∀ k t, o k = some t → ¬ fp k) (ho : LabEq w o o') : StoreP o' w' b p S where
 lab := by rw [ho b (lt_of_blk h.here)]; exact h.lab
 good := h.good
 tle := h.tle
 mle := h.mle
 sle := h.sle
 here := hm.get h.here (hf b _ h.lab)
 roll := h.roll.frame hm (fun k t e _ => hf k t e) ho
 atlas := h.atlas.frame hm (fun k t e _ => hf k t e) ho
 sch := h.sch.mod hm fun k f e => hf k _ (h.schl k f e).1
 schl k f e := ⟨by rw [ho k (h.schl k f e).2]; exact (h.schl k f e).1, Nat.lt_of_lt_of_le (h.schl k f e).2 hm.size⟩
 tabs := h.tabs.mod hm fun k e => hf k _ (h.tabsl k e)
 tabsl k e := by rw [ho k (h.tabs.vblk_lt e)]; exact h.tabsl k e
 spots := h.spots.mod hm fun k e => hf k _ (h.spotsl k e)
 spotsl k e := by rw [ho k (h.spots.vblk_lt e)]; exact h.spotsl k e
 tab i hi := (h.tab i hi).frame hm (fun k t e _ => hf k t e) ho
theorem StoreP.same {o : Lab} {w w' : World} {b : Nat} {p : Ptrs} {S : SM} (h : StoreP o w b p S) (hm : Same w w') : StoreP o w' b p S := h.frame hm (fun _ _ _ h => h) (LabEq.refl _ _)
theorem wdF_of {cs : List Comp} (h : GoodC cs) {c : Nat} (hc : c < cs.length) : (cs[c]).width = (wdF cs c : Int) ∧ 1 ≤ wdF cs c ∧ wdF cs c ≤ 4 := by
 have hw := h.2 _ (List.getElem_mem hc)
 unfold wdF
 rw [List.getElem?_eq_getElem hc]
 simp only
 omega
theorem sAlive_spec {o : Lab} {w : World} {b : Nat} {p : Ptrs} {S : SM} (h : StoreP o w b p S) (idx gen : Int) :
  Meets Tryz.prog 189 #[ptrV b, entV idx gen] w fun v w' => v = .bool (aliveF S.gens idx gen) ∧ Same w w' := by
 have hb := h.here
 rw [ptrV]
 refine f189_ok ?_
 unfold f189
 refine knew_of fun w2 hm2 hs2 hb2 => ?_
 have hb2 : blk w2 w.heap.size = some (.cells #[.int .i64 idx, .int .i64 gen] 176) := hb2
 rw [keq_ptr_nil' ptSto]
 have hbw := hm2.get hb (fun h => h)
 refine kG_of rfl ?_
 refine kB_at ?_
 refine kIf_T rfl ?_
 refine kN_at ?_
 refine kfld_of ?_
 refine kld_at hbw rfl ?_
 refine kG_of rfl ?_
 refine kldN_at hb2 rfl (by omega) ?_
 refine kG_of rfl ?_
 refine kcall_of (rAlive_spec (h.roll.same hm2.drew) idx gen) ?_
 rintro v w' ⟨rfl, h'⟩
 exact ⟨rfl, hm2.drew.trans h'⟩
end
section
attribute [local irreducible] kO kB kStr kInt kN kG kIf kfld kld kldN kst knew kmap kbld kbldS kext kcnv klenStr klen kcap kprt kprtN kbool kint kstr keq kun ksl kix kiv kta kmk kmm ksem ksemU kextf kcallV kcallM kcall kL
theorem alive_of {gens : List (Int × Bool)} {i : Nat} {g : Int} (h : gens[i]? = some (g, true)) : aliveF gens i g = true := by
 unfold aliveF
 rw [decT (show (0 : Int) ≤ (i : Int) by omega), Int.toNat_natCast, h]
 simp
theorem lk_none (f : Nat → Value) (c : Int) : ∀ comps : List Nat, (∀ x ∈ comps, (x : Int) ≠ c) → lkI c (comps.map fun (c : Nat) => ((c : Int), f c)) = none
 | [], _ => rfl
 | x :: r, h => by
  simp only [List.map_cons, lkI]
  rw [if_neg (fun e => h x (by simp) e.symm), lk_none f c r (fun y hy => h y (by simp [hy]))]
  rfl
theorem keq_ptr_of {P : Program} {w : World} {K : Value → World → Prop} {t : TypeId} {cx cy : Bool} (h : isPtrT P t = true) {a : Option Addr} (hk : K (.bool a.isNone) w) : keq P .eql t cx cy (.pointer a) (.pointer none) w K := by
 rw [keq_ptr_nil h]; exact hk
theorem sWrong_spec {S : Nat → Addr} {k lo : Nat} {x : Value} {w : World} (h : ErrX S k lo x w) (hlo : lo ≤ w.heap.size) : Meets Tryz.prog 115 #[x] w fun v w' => ErrX S k lo v w' ∧ Same w w' := by
 refine f115_ok ?_
 unfold f115
 refine kcall_of (atX_spec _ h hlo) ?_
 intro v w' h
 exact h
theorem sSpot_spec {o : Lab} {w : World} {b : Nat} {p : Ptrs} {S : SM} (h : StoreP o w b p S) {i : Nat} {g : Int} (hg : S.gens[i]? = some (g, true)) {n r : Nat} (hs : S.spots[i]? = some (n, r)) :
  Meets Tryz.prog 133 #[ptrV b, entV i g] w fun v w' => v = .tuple #[.agg #[natV n, natV r], .nilIface] ∧ Same w w' := by
 have hi : i < S.spots.length := (List.getElem?_eq_some_iff.1 hs).1
 have hsi : S.spots[i] = (n, r) := (List.getElem?_eq_some_iff.1 hs).2
 rw [ptrV]
 refine f133_ok ?_
 unfold f133
 refine knew_of fun w2 hm2 hs2 hb2 => ?_
 have hb2 : blk w2 w.heap.size = some (.cells #[.int .i64 i, .int .i64 g] 176) := hb2
 refine knew_of fun w4 hm4 hs4 hb4 => ?_
 have hb2' := hm4.get hb2 (fun h => h)
 have m4 := hm2.trans hm4
 rw [keq_ptr_nil ptSto]
 refine kB_at ?_
 refine kIf_F rfl ?_
 refine kldN_at hb2' rfl (by omega) ?_
 refine kcall_of (sAlive_spec (h.same m4) i g) ?_
 rintro v w15 ⟨rfl, h15⟩
 rw [alive_of hg]
 refine not_at ?_
 refine kB_at ?_
 refine kIf_F rfl ?_
 unfold f133_0
 have m15 := (m4.trans h15).drew
 have hbe : blk w15.drew w.heap.size = _ := h15.get hb2' (fun h => h)
 have hbz : blk w15.drew w2.heap.size = _ := h15.get hb4 (fun h => h)
 generalize w15.drew = wa at *
 have hba := m15.get h.here (fun h => h)
 obtain ⟨bs, cs', arr, t, e, hbs, q1, q2, q3⟩ := (h.spots.same m15).viewF (F := spotC) (sz := 2) (fun _ => rfl) (by omega) (show 0 < S.spots.length by omega)
 rw [e] at hba
 refine kN_at ?_
 refine kfld_of ?_
 refine kld_at hba rfl ?_
 refine kG_of rfl ?_
 refine kfld_of ?_
 refine kld_at hbe rfl ?_
 refine kG_of rfl ?_
 rw [kix_slice]
 refine kG_of (by omega) ?_
 rw [add_mk, Nat.zero_add, Int.toNat_natCast]
 refine kldN_at hbs (q3 i hi) (by omega) ?_
 refine kG_of rfl ?_
 rw [hsi]
 refine kst_of (vs := [natV n, natV r]) hbz rfl rfl rfl (by simp) (by simp) fun w29 h29 hs29 hb29 => ?_
 have hb29 : blk w29 w2.heap.size = some (.cells #[natV n, natV r] 263) := hb29
 refine kldN_at hb29 rfl (by omega) ?_
 exact ⟨rfl, m15.trans' (h29.mono fun k _ e => .inr (by omega))⟩
theorem sColumn_spec {o : Lab} {w : World} {b : Nat} {p : Ptrs} {S : SM} (h : StoreP o w b p S) {i : Nat} {g : Int} (hg : S.gens[i]? = some (g, true)) {n r : Nat} (hs : S.spots[i]? = some (n, r)) (hn : n < S.tabs.length) {c : Nat} (hc : c ∈ compsM S.masks n) :
  Meets Tryz.prog 229 #[ptrV b, entV i g, .int .i64 c] w fun v w' => v = .tuple #[ptrV (p.pc n c), natV r, .nilIface] ∧ ColAt o w' (p.pc n c) n c (wdF S.cs c) (S.tabs[n].col c) ∧ Same w w' := by
 rw [ptrV]
 refine f229_ok ?_
 unfold f229
 refine knew_of fun w2 hm2 hs2 hb2 => ?_
 have hb2 : blk w2 w.heap.size = some (.cells #[.int .i64 i, .int .i64 g] 176) := hb2
 refine kldN_at hb2 rfl (by omega) ?_
 refine kcall_of (sSpot_spec (h.same hm2) hg hs) ?_
 rintro v w5 ⟨rfl, h5⟩
 have m5 := hm2.trans h5
 refine kext_at rfl ?_
 refine kext_at rfl ?_
 refine knew_of fun w9 hm9 hs9 hb9 => ?_
 refine kst_of (vs := [natV n, natV r]) hb9 rfl rfl rfl (by simp) (by simp) fun w10 h10 hs10 hb10 => ?_
 have hb10 : blk w10 w5.heap.size = some (.cells #[natV n, natV r] 263) := hb10
 have m10 : Same w w10 := (m5.trans hm9).trans' (h10.mono fun k _ e => .inr (by have := m5.size; omega))
 rw [keq_nil_nil' ifErr]
 refine kB_at ?_
 refine kIf_F rfl ?_
 unfold f229_0
 have m10 := m10.drew
 have hb10 : blk w10.drew w5.heap.size = _ := hb10
 generalize w10.drew = wa at *
 have hS := h.same m10
 have hba := hS.here
 obtain ⟨ta, tn, tc, et, hts, htn⟩ := hS.tabs.is
 have htn : tn = (List.range S.tabs.length).length := by simpa using htn rfl
 rw [et] at hba
 subst htn
 obtain ⟨hlab, rv, bm, htb, hr, hrl, hbm, hM, hC⟩ := hS.tab n hn
 refine kN_at ?_
 refine kfld_of ?_
 refine kld_at hba rfl ?_
 refine kG_of rfl ?_
 refine kfld_of ?_
 refine kld_at hb10 rfl ?_
 refine kG_of rfl ?_
 rw [natV]
 refine kixld_of (F := fun i => ptrV (p.pt i)) hts (show n < (List.range S.tabs.length).length by simpa using hn) rfl ?_
 rw [List.getElem_range]
 rw [ptrV]
 refine kG_of rfl ?_
 refine kN_at ?_
 refine kfld_of ?_
 refine kld_at htb rfl ?_
 refine kG_of rfl ?_
 refine klook_of Tryz.underlying316 Tryz.underlying3 zCol hM (r := some (_, _)) (by rw [lk_comps, if_pos hc]) ?_
 refine kG_of rfl ?_
 refine keq_ptr_of ptCol (a := some ⟨p.pc n c, 0, none⟩) ?_
 refine kB_at ?_
 refine kIf_F rfl ?_
 unfold f229_1
 have hb10 : blk wa.drew w5.heap.size = _ := hb10
 refine kfld_of ?_
 refine kld_at hb10 rfl ?_
 refine kG_of rfl ?_
 exact ⟨rfl, (hC c hc).same (Mod.refl _ _).drew, m10.drew⟩
theorem sColumn_none {P : Nat → Prop} {Sa : Nat → Addr} {o : Lab} {w : World} (hL : LaidP P Sa w) (h7 : P 7) {b : Nat} {p : Ptrs} {S : SM} (h : StoreP o w b p S) {i : Nat} {g : Int} (hg : S.gens[i]? = some (g, true)) {n r : Nat} (hs : S.spots[i]? = some (n, r)) (hn : n < S.tabs.length) {c : Int} (hc : ∀ x ∈ compsM S.masks n, (x : Int) ≠ c) :
  Meets Tryz.prog 229 #[ptrV b, entV i g, .int .i64 c] w fun v w' => ∃ x, v = .tuple #[.pointer none, .int .i64 0, x] ∧ ErrX Sa 7 w.heap.size x w' ∧ Same w w' := by
 rw [ptrV]
 refine f229_ok ?_
 unfold f229
 refine knew_of fun w2 hm2 hs2 hb2 => ?_
 have hb2 : blk w2 w.heap.size = some (.cells #[.int .i64 i, .int .i64 g] 176) := hb2
 refine kldN_at hb2 rfl (by omega) ?_
 refine kcall_of (sSpot_spec (h.same hm2) hg hs) ?_
 rintro v w5 ⟨rfl, h5⟩
 have m5 := hm2.trans h5
 refine kext_at rfl ?_
 refine kext_at rfl ?_
 refine knew_of fun w9 hm9 hs9 hb9 => ?_
 refine kst_of (vs := [natV n, natV r]) hb9 rfl rfl rfl (by simp) (by simp) fun w10 h10 hs10 hb10 => ?_
 have hb10 : blk w10 w5.heap.size = some (.cells #[natV n, natV r] 263) := hb10
 have m10 : Same w w10 := (m5.trans hm9).trans' (h10.mono fun k _ e => .inr (by have := m5.size; omega))
 rw [keq_nil_nil' ifErr]
 refine kB_at ?_
 refine kIf_F rfl ?_
 unfold f229_0
 have m10 := m10.drew
 have hb10 : blk w10.drew w5.heap.size = _ := hb10
 generalize w10.drew = wa at *
 have hS := h.same m10
 have hba := hS.here
 obtain ⟨ta, tn, tc, et, hts, htn⟩ := hS.tabs.is
 have htn : tn = (List.range S.tabs.length).length := by simpa using htn rfl
 rw [et] at hba
 subst htn
 obtain ⟨hlab, rv, bm, htb, hr, hrl, hbm, hM, hC⟩ := hS.tab n hn
 refine kN_at ?_
 refine kfld_of ?_
 refine kld_at hba rfl ?_
 refine kG_of rfl ?_
 refine kfld_of ?_
 refine kld_at hb10 rfl ?_
 refine kG_of rfl ?_
 rw [natV]
 refine kixld_of (F := fun i => ptrV (p.pt i)) hts (show n < (List.range S.tabs.length).length by simpa using hn) rfl ?_
 rw [List.getElem_range]
 rw [ptrV]
 refine kG_of rfl ?_
 refine kN_at ?_
 refine kfld_of ?_
 refine kld_at htb rfl ?_
 refine kG_of rfl ?_
 refine klook_of Tryz.underlying316 Tryz.underlying3 zCol hM (r := none) (by rw [lk_none (fun c => ptrV (p.pc n c)) c _ hc]) ?_
 refine kG_of rfl ?_
 refine keq_ptr_of ptCol (a := none) ?_
 refine kB_at ?_
 refine kIf_T rfl ?_
 refine kld_err (hL.same m10) h7 rfl rfl ?_
 refine kcall_of (sWrong_spec (ErrX.sent Sa 7 wa.heap.size wa) (Nat.le_refl _)) ?_
 rintro v w26 ⟨hx, h26⟩
 exact ⟨_, rfl, hx.mono m10.size, m10.trans h26⟩
def zPartV : Value := .agg #[.int .i64 0, .int .i64 0, .int .i64 0, .int .i64 0, .int .i64 0, .int .i64 0]
theorem sGet_spec {o : Lab} {w : World} {b : Nat} {p : Ptrs} {S : SM} (h : StoreP o w b p S) {i : Nat} {g : Int} (hg : S.gens[i]? = some (g, true)) {n r : Nat} (hs : S.spots[i]? = some (n, r)) (hn : n < S.tabs.length) {c : Nat} (hc : c ∈ compsM S.masks n) (hr : r < (S.tabs[n].col c).length) :
  Meets Tryz.prog 225 #[ptrV b, entV i g, .int .i64 c] w fun v w' => v = .tuple #[.agg ((S.tabs[n].col c)[r]).cells.toArray, .nilIface] ∧ Same w w' := by
 refine f225_ok ?_
 unfold f225
 refine knew_of fun w2 hm2 hs2 hb2 => ?_
 have hb2 : blk w2 w.heap.size = some (.cells #[.int .i64 i, .int .i64 g] 176) := hb2
 refine knew_of fun w4 hm4 hs4 hb4 => ?_
 have m4 := hm2.trans hm4
 have hb2' := hm4.get hb2 (fun h => h)
 refine kldN_at hb2' rfl (by omega) ?_
 refine kcall_of (sColumn_spec (h.same m4) hg hs hn hc) ?_
 rintro v w7 ⟨rfl, hC, h7⟩
 have m7 := m4.trans h7
 refine kext_at rfl ?_
 refine kext_at rfl ?_
 refine kext_at rfl ?_
 rw [keq_nil_nil' ifErr]
 refine kB_at ?_
 refine kIf_F rfl ?_
 refine kcall_of (cRow_spec hC hr) ?_
 rintro v w17 ⟨rfl, h17⟩
 refine kext_at rfl ?_
 refine kext_at rfl ?_
 have hb17 := h17.get (h7.get hb4 (fun h => h)) (fun h => h)
 refine kst_of (vs := ((S.tabs[n].col c)[r]).cells) hb17 rfl rfl rfl (by simp) (by simp [Part.cells]) fun w20 h20 hs20 hb20 => ?_
 have hb20 : blk w20 w2.heap.size = some (.cells ((S.tabs[n].col c)[r]).cells.toArray 102) := hb20
 refine kldN_at hb20 rfl (by omega) ?_
 exact ⟨rfl, (m7.trans h17).trans' (h20.mono fun k _ e => .inr (by omega))⟩
theorem sGet_err {Sa : Nat → Addr} {k : Nat} {w : World} {b : Nat} {idx gen c : Int}
  (h : ∀ w2, Same w w2 → Meets Tryz.prog 229 #[ptrV b, entV idx gen, .int .i64 c] w2 fun v w' => ∃ x, v = .tuple #[.pointer none, .int .i64 0, x] ∧ ErrX Sa k w2.heap.size x w' ∧ Same w2 w') :
  Meets Tryz.prog 225 #[ptrV b, entV idx gen, .int .i64 c] w fun v w' => ∃ x, v = .tuple #[zPartV, x] ∧ ErrX Sa k w.heap.size x w' ∧ Same w w' := by
 refine f225_ok ?_
 unfold f225
 refine knew_of fun w2 hm2 hs2 hb2 => ?_
 have hb2 : blk w2 w.heap.size = some (.cells #[.int .i64 idx, .int .i64 gen] 176) := hb2
 refine knew_of fun w4 hm4 hs4 hb4 => ?_
 have m4 := hm2.trans hm4
 have hb2' := hm4.get hb2 (fun h => h)
 refine kldN_at hb2' rfl (by omega) ?_
 refine kcall_of (h w4 m4) ?_
 rintro v w7 ⟨x, rfl, hx, h7⟩
 have m7 := m4.trans h7
 have hb7 := h7.get hb4 (fun h => h)
 obtain ⟨t, y, rfl⟩ := hx.if
 refine kext_at rfl ?_
 refine kext_at rfl ?_
 refine kext_at rfl ?_
 rw [keq_if_nil' ifErr]
 refine kB_at ?_
 refine kIf_T rfl ?_
 refine kbld_of (cs := [.int .i64 0, .int .i64 0, .int .i64 0, .int .i64 0, .int .i64 0, .int .i64 0]) rfl ?_
 refine kst_of (vs := [.int .i64 0, .int .i64 0, .int .i64 0, .int .i64 0, .int .i64 0, .int .i64 0]) hb7 rfl rfl rfl (by simp) (by simp) fun w20 h20 hs20 hb20 => ?_
 have hb20 : blk w20 w2.heap.size = some (.cells #[.int .i64 0, .int .i64 0, .int .i64 0, .int .i64 0, .int .i64 0, .int .i64 0] 102) := hb20
 refine kldN_at hb20 rfl (by omega) ?_
 exact ⟨_, rfl, (hx.mod h20 fun k h1 h2 e => by omega).mono (by omega), m7.trans' (h20.mono fun k _ e => .inr (by omega))⟩
end
section
attribute [local irreducible] kO kB kStr kInt kN kG kIf kfld kld kldN kst knew kmap kbld kbldS kext kcnv klenStr klen kcap kprt kprtN kbool kint kstr keq kun ksl kix kiv kta kmk kmm ksem ksemU kextf kcallV kcallM kcall kL
theorem tabTag_inj {i j : Nat} {t : Tag} (h1 : tabTag i t) (h2 : tabTag j t) : i = j := by
 rcases h1 with rfl | rfl | rfl | ⟨c, rfl | rfl | rfl⟩ <;> rcases h2 with h | h | h | ⟨d, h | h | h⟩ <;> cases h <;> rfl
theorem StoreP.setTab {o o' : Lab} {w w' : World} {b : Nat} {p : Ptrs} {S : SM} (h : StoreP o w b p S) {n : Nat} (hn : n < S.tabs.length) {T' : TabM} (hl : LabEq w o o') (hm : Mod (FP o (tabTag n)) w w')
  (hT : TabAt o' w' (p.pt n) n (compsM S.masks n) (wdF S.cs) (p.pc n) T') : StoreP o' w' b p { S with tabs := S.tabs.set n T' } where
 lab := by rw [hl b (lt_of_blk h.here)]; exact h.lab
 good := h.good
 tle := by simpa using h.tle
 mle := h.mle
 sle := h.sle
 here := hm.get h.here fun ⟨t, e1, e2⟩ => by
  rw [h.lab] at e1; cases e1
  rcases e2 with h | h | h | ⟨c, h | h | h⟩ <;> cases h
 roll := h.roll.frame hm (fun k t e et ⟨t', e1, e2⟩ => by
  rw [e] at e1; cases e1
  rcases et with rfl | rfl | rfl <;> (rcases e2 with h | h | h | ⟨c, h | h | h⟩ <;> cases h)) hl
 atlas := h.atlas.frame hm (fun k t e et ⟨t', e1, e2⟩ => by
  rw [e] at e1; cases e1
  rcases et with rfl | rfl | rfl | ⟨i, rfl⟩ <;> (rcases e2 with h | h | h | ⟨c, h | h | h⟩ <;> cases h)) hl
 sch := h.sch.mod hm fun k f e ⟨t', e1, e2⟩ => by
  rw [(h.schl k f e).1] at e1; cases e1
  rcases e2 with h | h | h | ⟨c, h | h | h⟩ <;> cases h
 schl k f e := ⟨by rw [hl k (h.schl k f e).2]; exact (h.schl k f e).1, Nat.lt_of_lt_of_le (h.schl k f e).2 hm.size⟩
 tabs := by
  have := h.tabs.mod hm fun k e ⟨t', e1, e2⟩ => by
   rw [h.tabsl k e] at e1; cases e1
   rcases e2 with h | h | h | ⟨c, h | h | h⟩ <;> cases h
  simpa using this
 tabsl k e := by rw [hl k (h.tabs.vblk_lt e)]; exact h.tabsl k e
 spots := h.spots.mod hm fun k e ⟨t', e1, e2⟩ => by
  rw [h.spotsl k e] at e1; cases e1
  rcases e2 with h | h | h | ⟨c, h | h | h⟩ <;> cases h
 spotsl k e := by rw [hl k (h.spots.vblk_lt e)]; exact h.spotsl k e
 tab i hi := by
  simp only [List.length_set] at hi
  simp only [List.getElem_set]
  by_cases hin : n = i
  ·subst hin
   simp only [if_true]
   exact hT
  ·simp only [hin, if_false]
   exact (h.tab i hi).frame hm (fun k t e et ⟨t', e1, e2⟩ => by
    rw [e] at e1; cases e1
    exact hin (tabTag_inj e2 et)) hl
theorem StoreP.setTS {o o' : Lab} {w w' : World} {b : Nat} {p : Ptrs} {S : SM} (h : StoreP o w b p S) {n : Nat} (hn : n < S.tabs.length) {T' : TabM} (hl : LabEq w o o') (hm : Mod (FP o fun t => tabTag n t ∨ t = .spots) w w') {sp' : List (Nat × Nat)} (hsp : Own w' p.sv 2 (sp'.flatMap spotC)) (hspl : sp'.length = S.spots.length)
  (hT : TabAt o' w' (p.pt n) n (compsM S.masks n) (wdF S.cs) (p.pc n) T') : StoreP o' w' b p { S with tabs := S.tabs.set n T', spots := sp' } where
 lab := by rw [hl b (lt_of_blk h.here)]; exact h.lab
 good := h.good
 tle := by simpa using h.tle
 mle := h.mle
 sle := by rw [hspl]; exact h.sle
 here := hm.get h.here fun ⟨t, e1, e2⟩ => by
  rw [h.lab] at e1; cases e1
  rcases e2 with (h | h | h | ⟨c, h | h | h⟩) | h <;> cases h
 roll := h.roll.frame hm (fun k t e et ⟨t', e1, e2⟩ => by
  rw [e] at e1; cases e1
  rcases et with rfl | rfl | rfl <;> (rcases e2 with (h | h | h | ⟨c, h | h | h⟩) | h <;> cases h)) hl
 atlas := h.atlas.frame hm (fun k t e et ⟨t', e1, e2⟩ => by
  rw [e] at e1; cases e1
  rcases et with rfl | rfl | rfl | ⟨i, rfl⟩ <;> (rcases e2 with (h | h | h | ⟨c, h | h | h⟩) | h <;> cases h)) hl
 sch := h.sch.mod hm fun k f e ⟨t', e1, e2⟩ => by
  rw [(h.schl k f e).1] at e1; cases e1
  rcases e2 with (h | h | h | ⟨c, h | h | h⟩) | h <;> cases h
 schl k f e := ⟨by rw [hl k (h.schl k f e).2]; exact (h.schl k f e).1, Nat.lt_of_lt_of_le (h.schl k f e).2 hm.size⟩
 tabs := by
  have := h.tabs.mod hm fun k e ⟨t', e1, e2⟩ => by
   rw [h.tabsl k e] at e1; cases e1
   rcases e2 with (h | h | h | ⟨c, h | h | h⟩) | h <;> cases h
  simpa using this
 tabsl k e := by rw [hl k (h.tabs.vblk_lt e)]; exact h.tabsl k e
 spots := hsp
 spotsl k e := by rw [hl k (h.spots.vblk_lt e)]; exact h.spotsl k e
 tab i hi := by
  simp only [List.length_set] at hi
  simp only [List.getElem_set]
  by_cases hin : n = i
  ·subst hin
   simp only [if_true]
   exact hT
  ·simp only [hin, if_false]
   exact (h.tab i hi).frame hm (fun k t e et ⟨t', e1, e2⟩ => by
    rw [e] at e1; cases e1
    rcases e2 with e2 | e2
    ·exact hin (tabTag_inj e2 et)
    ·subst e2
     rcases et with h | h | h | ⟨c, h | h | h⟩ <;> cases h) hl
def updC (f : Nat → List Part) (c : Nat) (l : List Part) (d : Nat) : List Part := if d = c then l else f d
theorem updC_same (f : Nat → List Part) (c : Nat) (l : List Part) : updC f c l c = l := if_pos rfl
theorem updC_ne (f : Nat → List Part) {c : Nat} {l : List Part} {d : Nat} (h : d ≠ c) : updC f c l d = f d := if_neg h
theorem colTag_inj {i c d : Nat} {t : Tag} (h1 : colTag i c t) (h2 : colTag i d t) : c = d := by
 rcases h1 with rfl | rfl | rfl <;> rcases h2 with h | h | h <;> cases h <;> rfl
theorem TabAt.setCol {o o' : Lab} {w w' : World} {b i : Nat} {comps : List Nat} {wd pc : Nat → Nat} {T : TabM} (h : TabAt o w b i comps wd pc T) {c : Nat} (hc : c ∈ comps) {l : List Part} (hl : LabEq w o o') {Tg : Tag → Prop} (hTg : ∀ t, Tg t → colTag i c t) (hm : Mod (FP o Tg) w w')
  (hC : ColAt o' w' (pc c) i c (wd c) l) : TabAt o' w' b i comps wd pc ⟨T.rows, updC T.col c l⟩ := by
 obtain ⟨h1, rv, bm, hb, hr, hrl, hbm, hM, hCs⟩ := h
 refine ⟨by rw [hl b (lt_of_blk hb)]; exact h1, rv, bm, hm.get hb fun ⟨t, e1, e2⟩ => ?_, hr.mod hm fun k hk ⟨t, e1, e2⟩ => ?_, fun k hk => by rw [hl k (hr.vblk_lt hk)]; exact hrl k hk, by rw [hl bm (lt_of_blk hM)]; exact hbm, hM.mod hm fun ⟨t, e1, e2⟩ => ?_, fun d hd => ?_⟩
 ·rw [h1] at e1; cases e1
  rcases hTg _ e2 with h | h | h <;> cases h
 ·rw [hrl k hk] at e1; cases e1
  rcases hTg _ e2 with h | h | h <;> cases h
 ·rw [hbm] at e1; cases e1
  rcases hTg _ e2 with h | h | h <;> cases h
 ·show ColAt o' w' (pc d) i d (wd d) (updC T.col c l d)
  by_cases hdc : d = c
  ·subst hdc
   rw [updC_same]; exact hC
  ·rw [updC_ne _ hdc]
   exact (hCs d hd).frame hm (fun k t e et ⟨t', e1, e2⟩ => by
    rw [e] at e1; cases e1
    exact hdc (colTag_inj et (hTg _ e2))) hl
def cutL (o : Lab) (n k : Nat) : Option Tag := if k < n then o k else none
theorem LabEq.cut (w : World) (o : Lab) : LabEq w o (cutL o w.heap.size) := fun k hk => if_pos hk
theorem FP.cut {o : Lab} {n : Nat} {T : Tag → Prop} {k : Nat} (h : FP (cutL o n) T k) : FP o T k ∧ k < n := by
 obtain ⟨t, e1, e2⟩ := h
 unfold cutL at e1
 split at e1
 ·exact ⟨⟨t, e1, e2⟩, by assumption⟩
 ·cases e1
theorem StoreP.cut {o : Lab} {w w' : World} {b : Nat} {p : Ptrs} {S : SM} (h : StoreP o w b p S) (hm : Same w w') : StoreP (cutL o w.heap.size) w' b p S := h.frame hm (fun _ _ _ h => h) (LabEq.cut w o)
theorem cutL_none {o : Lab} {n k : Nat} (h : n ≤ k) : cutL o n k = none := if_neg (by omega)
def Turned (o : Lab) (w : World) (b : Nat) (S' : SM) (w' : World) : Prop := ∃ o' p', LabEq w o o' ∧ StoreP o' w' b p' S' ∧ Mod (FP o fun _ => True) w w' ∧ ∀ k, w'.heap.size ≤ k → o' k = none
theorem Turned.wrap {o : Lab} {w w4 w5 w6 : World} {b : Nat} {S' : SM} (m : Same w w4) (t : Turned (cutL o w.heap.size) w4 b S' w5) (hz : Mod (fun k => w.heap.size ≤ k ∧ k < w4.heap.size) w5 w6) : Turned o w b S' w6 := by
 obtain ⟨o', p', hl, hP, hm, hc⟩ := t
 have ml := m.size
 have hl' : LabEq w o (cutL o' w6.heap.size) := fun k hk => by
  have := hm.size
  have := hz.size
  have e := hl k (by omega)
  unfold cutL at *
  rw [if_pos (by omega), e, if_pos hk]
 refine ⟨cutL o' w6.heap.size, p', hl', hP.frame hz (fun k t e ⟨e1, e2⟩ => ?_) (fun k hk => ?_), ((Mod.of_same m).trans (hm.mono fun k _ hk => hk.cut.1)).trans' (hz.mono fun k _ hk => .inr hk.1), fun k hk => cutL_none hk⟩
 ·rw [hl k e2] at e
  rw [cutL_none e1] at e; cases e
 ·have := hz.size
  unfold cutL
  rw [if_pos (by omega)]
theorem Turned.of {o o' : Lab} {w w4 w' w'' : World} {b : Nat} {S' : SM} {p' : Ptrs} {T : Tag → Prop} (m4 : Same w w4) (hl : LabEq w4 (cutL o w.heap.size) o') (hP : StoreP o' w' b p' S') (hm : Mod (FP (cutL o w.heap.size) T) w4 w') (hz : Mod (fun k => w.heap.size ≤ k ∧ k < w4.heap.size) w' w'') : Turned o w b S' w'' := by
 refine Turned.wrap m4 ⟨cutL o' w'.heap.size, p', fun k hk => ?_, hP.frame (Mod.refl (fun _ => False) _) (fun _ _ _ h => h) (LabEq.cut w' o'), hm.mono fun k _ hk => FP.mono (fun _ _ => trivial) hk, fun k hk => cutL_none hk⟩ hz
 have := hm.size
 unfold cutL at *
 rw [if_pos (by omega), hl k hk]
theorem Turned.seq {o o1 : Lab} {w w1 w2 w3 : World} {b : Nat} {S' : SM} (hl : LabEq w o o1) (hm : Mod (FP o fun _ => True) w w1) (m : Same w1 w2) (t : Turned o1 w2 b S' w3) : Turned o w b S' w3 := by
 obtain ⟨o', p', hl', hP, hm', hc⟩ := t
 have hm2 := hm.trans (Mod.of_same m)
 exact ⟨o', p', hl.trans hl' hm2.size, hP, Mod.labs hm2 hl hm', hc⟩
theorem sSet_spec {o : Lab} {w : World} {b : Nat} {p : Ptrs} {S : SM} (h : StoreP o w b p S) {i : Nat} {g : Int} (hg : S.gens[i]? = some (g, true)) {n r : Nat} (hs : S.spots[i]? = some (n, r)) (hn : n < S.tabs.length) {c : Nat} (hc : c ∈ compsM S.masks n) (hr : r < (S.tabs[n].col c).length) {cell : Nat} (hcell : cell < wdF S.cs c) (value frame : Int) :
  Meets Tryz.prog 196 #[ptrV b, entV i g, .int .i64 c, .int .i64 cell, .int .i64 value, .int .i64 frame] w fun v w' => v = .tuple #[.agg ((S.tabs[n].col c)[r]).cells.toArray, .nilIface] ∧
   Turned o w b { S with tabs := S.tabs.set n ⟨S.tabs[n].rows, updC S.tabs[n].col c ((S.tabs[n].col c).set r (((S.tabs[n].col c)[r]).setCell cell value frame))⟩ } w' := by
 refine f196_ok ?_
 unfold f196
 refine knew_of fun w2 hm2 hs2 hb2 => ?_
 have hb2 : blk w2 w.heap.size = some (.cells #[.int .i64 i, .int .i64 g] 176) := hb2
 refine knew_of fun w4 hm4 hs4 hb4 => ?_
 have m4 := hm2.trans hm4
 have hb2' := hm4.get hb2 (fun h => h)
 have hS4 := h.cut m4
 refine kldN_at hb2' rfl (by omega) ?_
 refine kcall_of (sColumn_spec hS4 hg hs hn hc) ?_
 rintro v w7 ⟨rfl, hC, h7⟩
 have m7 := m4.trans h7
 have hS7 := hS4.same h7
 refine kext_at rfl ?_
 refine kext_at rfl ?_
 refine kext_at rfl ?_
 rw [keq_nil_nil' ifErr]
 refine kB_at ?_
 refine kIf_F rfl ?_
 refine kcall_of (cSet_spec hC hr hcell value frame) ?_
 rintro v w17 ⟨rfl, hC17, h17⟩
 refine kext_at rfl ?_
 refine kext_at rfl ?_
 have hb17 : blk w17 w2.heap.size = _ := h17.get (h7.get hb4 (fun h => h)) (fun e => by have := e.cut.2; omega)
 refine kst_of (vs := ((S.tabs[n].col c)[r]).cells) hb17 rfl rfl rfl (by simp) (by simp [Part.cells]) fun w20 h20 hs20 hb20 => ?_
 have hb20 : blk w20 w2.heap.size = some (.cells ((S.tabs[n].col c)[r]).cells.toArray 102) := hb20
 refine kldN_at hb20 rfl (by omega) ?_
 have hT := (hS7.tab n hn).setCol hc (LabEq.refl w7 _) (fun t ht => ht.elim (fun h => .inr (.inl h)) (fun h => .inr (.inr h))) h17 hC17
 have hP := hS7.setTab hn (LabEq.refl w7 _) (h17.mono fun k _ hk => FP.mono (fun t ht => .inr (.inr (.inr ⟨c, ht.elim (fun h => .inr (.inl h)) (fun h => .inr (.inr h))⟩))) hk) hT
 exact ⟨rfl, Turned.of m7 (LabEq.refl w7 _) hP h17 (h20.mono fun k _ e => by subst e; exact ⟨by omega, by have := h7.size; omega⟩)⟩
end
section
theorem listF_mem {m c : Nat} : c ∈ listF m ↔ c < 32 ∧ m.testBit c = true := by simp [listF]
theorem listF_lt {m n c : Nat} (hm : m < 2 ^ n) (hc : c ∈ listF m) : c < n := by
 have h := (listF_mem.1 hc).2
 by_cases h1 : c < n
 ·exact h1
 ·have : m < 2 ^ c := Nat.lt_of_lt_of_le hm (Nat.pow_le_pow_right (by omega) (by omega))
  rw [Nat.testBit_lt_two_pow this] at h; cases h
theorem listF_nodup (m : Nat) : (listF m).Nodup := List.Pairwise.filter _ List.nodup_range
theorem apTab : appT Tryz.prog 241 1 8 = true := by kernel_rfl
theorem slTab_is : ∃ e, Tryz.prog.underlying 241 = some (.slice e) := slT_of (by kernel_rfl)
def tabLab (o : Lab) (n bm bt i k : Nat) : Option Tag := if k < n then o k else if k = bm then some (.tmap i) else if k = bt then some (.table i) else none
def TabUp (o : Lab) (w : World) (bt bm i : Nat) (l : List Nat) (wd pc : Nat → Nat) : Prop :=
 o bt = some (.table i) ∧ blk w bt = some (.cells #[.slice none 0 0, .map (some bm)] 319) ∧ o bm = some (.tmap i) ∧ MapIs w bm .i64 (l.map fun (c : Nat) => ((c : Int), ptrV (pc c))) ∧ ∀ c ∈ l, ColAt o w (pc c) i c (wd c) []
theorem TabUp.done {o : Lab} {w : World} {bt bm i : Nat} {l : List Nat} {wd pc : Nat → Nat} (h : TabUp o w bt bm i l wd pc) : TabAt o w bt i l wd pc TabM.empty := by
 obtain ⟨h1, h2, h3, h4, h5⟩ := h
 exact ⟨h1, _, bm, h2, Own.nil _ _, (fun k hk => by obtain ⟨_, _, _, e⟩ := hk; cases e), h3, h4, h5⟩
theorem mk_of {o : Lab} {w : World} {b : Nat} {p : Ptrs} {S : SM} (h : StoreP o w b p S) : ∀ m ∈ S.masks, m < 2 ^ S.cs.length := by
 obtain ⟨pn, nodes, hN, e, hnd, hE, hlt⟩ := h.atlas
 exact hlt
def layS (S : SM) (j : Nat) : SM := { S with tabs := S.tabs ++ List.replicate j TabM.empty }
theorem StoreP.addTab {o o' : Lab} {w w' : World} {b : Nat} {p : Ptrs} {S : SM} (h : StoreP o w b p S) {tv' : Value} {bt : Nat} {pc' : Nat → Nat} (hlt : S.tabs.length < S.masks.length) (hl : LabEq w o o') (hm : Mod (fun k => k = b ∨ vblk p.tv k) w w')
  (hb : blk w' b = some (.cells #[ptrV p.bR, .slice p.ca S.cs.length p.cc, p.rv, ptrV p.bA, tv', p.sv] 243))
  (ht : Own w' tv' 1 (((List.range S.tabs.length).map fun i => ptrV (p.pt i)) ++ [ptrV bt])) (htl : ∀ k, vblk tv' k → o' k = some .tabs)
  (hT : TabAt o' w' bt S.tabs.length (compsM S.masks S.tabs.length) (wdF S.cs) pc' TabM.empty) :
  StoreP o' w' b { p with tv := tv', pt := updN p.pt S.tabs.length bt, pc := fun i => if i = S.tabs.length then pc' else p.pc i } (layS S 1) := by
 have hlabT : ∀ k t, o k = some t → t ≠ .store → t ≠ .tabs → ¬ (k = b ∨ vblk p.tv k) := by
  rintro k t e n1 n2 (rfl | e2)
  ·rw [h.lab] at e; cases e; exact n1 rfl
  ·rw [h.tabsl k e2] at e; cases e; exact n2 rfl
 exact {
  lab := by rw [hl b (lt_of_blk h.here)]; exact h.lab
  good := h.good
  tle := by simp [layS]; omega
  mle := h.mle
  sle := h.sle
  here := hb
  roll := h.roll.frame hm (fun k t e et => hlabT k t e (by rintro rfl; rcases et with h | h | h <;> cases h) (by rintro rfl; rcases et with h | h | h <;> cases h)) hl
  atlas := h.atlas.frame hm (fun k t e et => hlabT k t e (by rintro rfl; rcases et with h | h | h | ⟨i, h⟩ <;> cases h) (by rintro rfl; rcases et with h | h | h | ⟨i, h⟩ <;> cases h)) hl
  sch := h.sch.mod hm fun k f e => hlabT k _ (h.schl k f e).1 (fun h => by cases h) (fun h => by cases h)
  schl := fun k f e => ⟨by rw [hl k (h.schl k f e).2]; exact (h.schl k f e).1, Nat.lt_of_lt_of_le (h.schl k f e).2 hm.size⟩
  tabs := by
   have e : (List.range (layS S 1).tabs.length).map (fun i => ptrV (updN p.pt S.tabs.length bt i)) = ((List.range S.tabs.length).map fun i => ptrV (p.pt i)) ++ [ptrV bt] := by
    show (List.range (S.tabs ++ List.replicate 1 TabM.empty).length).map _ = _
    rw [List.length_append, List.length_replicate, List.range_succ, List.map_append, List.map_cons, List.map_nil, updN_same]
    congr 1
    apply List.map_congr_left
    intro i hi
    rw [updN_ne _ (by simp at hi; omega)]
   exact e ▸ ht
  tabsl := htl
  spots := h.spots.mod hm fun k e => hlabT k _ (h.spotsl k e) (fun h => by cases h) (fun h => by cases h)
  spotsl := fun k e => by rw [hl k (h.spots.vblk_lt e)]; exact h.spotsl k e
  tab := fun i hi => by
   have hi' : i < S.tabs.length + 1 := by simpa [layS] using hi
   by_cases hin : i = S.tabs.length
   ·subst hin
    have e : (layS S 1).tabs[S.tabs.length]'hi = TabM.empty := by simp [layS]
    simp only [e, if_true, updN_same]
    exact hT
   ·have hi2 : i < S.tabs.length := by omega
    have e : (layS S 1).tabs[i]'hi = S.tabs[i] := by simp [layS, List.getElem_append_left hi2]
    simp only [e, hin, if_false, updN_ne _ hin]
    exact (h.tab i hi2).frame hm (fun k t e et => hlabT k t e (by rintro rfl; rcases et with h | h | h | ⟨c, h | h | h⟩ <;> cases h) (by rintro rfl; rcases et with h | h | h | ⟨c, h | h | h⟩ <;> cases h)) hl }
end
section
attribute [local irreducible] kO kB kStr kInt kN kG kIf kfld kld kldN kst knew kmap kbld kbldS kext kcnv klenStr klen kcap kprt kprtN kbool kint kstr keq kun ksl kix kiv kta kmk kmm ksem ksemU kextf kcallV kcallM kcall kL
theorem layS_0 (S : SM) : layS S 0 = S := by simp [layS]
theorem layS_1 (S : SM) (j : Nat) : layS (layS S j) 1 = layS S (j + 1) := by
 unfold layS
 simp only [List.append_assoc]
 have e : List.replicate j TabM.empty ++ List.replicate 1 TabM.empty = List.replicate (j + 1) TabM.empty := by
  rw [List.replicate_succ' (n := j)]; rfl
 rw [e]
theorem sLay_spec {o : Lab} {w : World} (hD : DeAt w) {b : Nat} {p : Ptrs} {S : SM} (h : StoreP o w b p S) (hDo : o 20 = none) :
  Meets Tryz.prog 118 #[ptrV b] w fun v w' => v = .nilIface ∧ Turned o w b (layS S (S.masks.length - S.tabs.length)) w' := by
 have hDlt := hD.lt
 rw [ptrV]
 refine f118_ok ?_
 unfold f118
 have hb0 := h.here
 obtain ⟨ta0, tn0, tc0, et0, hts0, htn0⟩ := h.tabs.is
 have htn0 : tn0 = S.tabs.length := by simpa using htn0 rfl
 rw [et0] at hb0
 subst htn0
 refine kN_at ?_
 refine kfld_of ?_
 refine kld_at hb0 rfl ?_
 refine klen_at ?_
 refine kL1_of (S.masks.length - S.tabs.length) (fun j x wr => x = natV (S.tabs.length + j) ∧ j ≤ S.masks.length - S.tabs.length ∧ Turned o w b (layS S j) wr) ⟨lI1_0 ⟨rfl, by omega, cutL o w.heap.size, p, LabEq.cut w o, ?_, Mod.refl _ _, fun k hk => cutL_none hk⟩, fun x wr hx => ?_⟩
 ·rw [layS_0]; exact h.cut (Mod.refl _ _)
 obtain ⟨j, hj, ⟨rfl, _, o1, p1, hl1, hP1, hm1, hc1⟩, hJ⟩ := lI1_step hx
 have hDr : DeAt wr := hD.mod hm1 fun ⟨t, e1, _⟩ => by rw [hDo] at e1; cases e1
 have hbr := hP1.here
 have hcs : (layS S j).cs = S.cs := rfl
 have hms : (layS S j).masks = S.masks := rfl
 have htl : (layS S j).tabs.length = S.tabs.length + j := by simp [layS]
 unfold f118_0
 refine kN_at ?_
 refine kfld_of ?_
 refine kld_at hbr rfl ?_
 refine kcall_of (lenAt_spec hP1.atlas) ?_
 rintro v w8 ⟨rfl, rfl⟩
 rw [natV, natV]
 refine lss_at ?_
 refine kB_at ?_
 refine kIf_dec (fun hlt => ?_) (fun hge => ?_)
 ·have hlt : S.tabs.length + j < S.masks.length := by rw [hms] at hlt; omega
  have hi : S.tabs.length + j < (layS S j).masks.length := hlt
  unfold f118_1
  refine kN_at ?_
  refine kfld_of ?_
  refine kld_at hbr rfl ?_
  refine kcall_of (maskAt_spec hP1.atlas (S.tabs.length + j) hi) ?_
  rintro v w13 ⟨rfl, rfl⟩
  refine kext_at rfl ?_
  refine kext_at rfl ?_
  rw [keq_nil_nil' ifErr]
  refine kB_at ?_
  refine kIf_F rfl ?_
  have hmlt := mk_of hP1 _ (List.getElem_mem hi)
  have hmi : (layS S j).masks[S.tabs.length + j] = S.masks[S.tabs.length + j] := rfl
  have hcomps : compsM S.masks (S.tabs.length + j) = listF (S.masks[S.tabs.length + j]) := by
   unfold compsM; rw [List.getElem?_eq_getElem hlt]; rfl
  rw [hmi] at hmlt
  rw [hmi]
  rw [hcs] at hmlt
  generalize hm : S.masks[S.tabs.length + j] = m at *
  have hg16 := hP1.good.1
  rw [hcs] at hg16
  have hm32 : m < 4294967296 := by
   have : 2 ^ S.cs.length ≤ 2 ^ 16 := Nat.pow_le_pow_right (by omega) hg16
   omega
  unfold f118_2
  refine kmap_of fun w19 h19 hs19 hm19 => ?_
  refine kbld_of (cs := [.slice none 0 0, .map (some w13.heap.size)]) rfl ?_
  refine knew_of fun w22 h22 hs22 hb22 => ?_
  have hb22 : blk w22 w19.heap.size = some (.cells #[.slice none 0 0, .map (some w13.heap.size)] 319) := hb22
  have m22 := h19.trans h22
  refine kcall_of (List_spec (hDr.same m22) m hm32) ?_
  rintro v w24 ⟨la, lc, rfl, hls, h24, hlf⟩
  have m24 := m22.trans h24
  refine klen_at ?_
  have hl32 := listF_len m
  have hmle0 : S.masks.length ≤ 90000 := hP1.mle
  have hT0 : TabUp (tabLab o1 w13.heap.size w13.heap.size w19.heap.size (S.tabs.length + j)) w24 w19.heap.size w13.heap.size (S.tabs.length + j) [] (wdF S.cs) (fun _ => 0) :=
   ⟨by unfold tabLab; rw [if_neg (by omega), if_neg (by omega), if_pos rfl], h24.get hb22 (fun h => h), by unfold tabLab; rw [if_neg (by omega), if_pos rfl], ((hm19 .i64).same h22).same h24, fun c hc => by cases hc⟩
  refine kL1_of (listF m).length (fun q x wi => x = .int .i64 q ∧ ∃ o' pc, LabEq w13 o1 o' ∧ Mod (fun k => k = w13.heap.size) w24 wi ∧ TabUp o' wi w19.heap.size w13.heap.size (S.tabs.length + j) ((listF m).take q) (wdF S.cs) pc)
   ⟨lI1_0 ⟨rfl, tabLab o1 w13.heap.size w13.heap.size w19.heap.size (S.tabs.length + j), fun _ => 0, (fun k hk => by unfold tabLab; rw [if_pos hk]), Mod.refl _ _, by simpa using hT0⟩, fun x wi hx2 => ?_⟩
  obtain ⟨q, hq, ⟨rfl, o', pc, hlo, hmi2, hTU⟩, hJ2⟩ := lI1_step hx2
  have hbmlt : w13.heap.size < w22.heap.size := by omega
  have mi : Same w13 wi := m24.trans' (hmi2.mono fun k _ e => .inr (by omega))
  have hlsi : SlIs wi la (listF m).length 1 ((listF m).map natV) := hls.mod hmi2 fun bb oo e ek => by have := hlf bb oo e; omega
  unfold f118_3
  refine lss_at ?_
  refine kB_at ?_
  refine kIf_dec (fun hlq => ?_) (fun hgq => ?_)
  ·have hlq : q < (listF m).length := by omega
   have hbi := mi.get hbr (fun h => h)
   have hcmem : (listF m)[q] ∈ listF m := List.getElem_mem hlq
   have hclt := listF_lt hmlt hcmem
   obtain ⟨hw1, hw2, hw3⟩ := wdF_of (cs := S.cs) hP1.good hclt
   have hsch := hP1.sch.same mi
   have hnin : (listF m)[q] ∉ (listF m).take q := by
    intro hin
    obtain ⟨a, ha, e⟩ := List.mem_iff_getElem.1 hin
    rw [List.getElem_take] at e
    have hal : a < q := by simp at ha; omega
    have := (List.pairwise_iff_getElem.1 (listF_nodup m)) a q (by omega) hlq hal
    exact this e
   generalize hcq : (listF m)[q] = c at *
   unfold f118_4
   refine kixld_of (F := natV) hlsi hlq rfl ?_
   rw [hcq]
   refine kN_at ?_
   refine kfld_of ?_
   refine kfld_of ?_
   refine kld_at hbi rfl ?_
   rw [natV]
   refine kixfld_of (F := Comp.cells) (fun _ => rfl) hsch hclt (v := .int .i64 (wdF S.cs c)) (congrArg (fun z : Int => some (Value.int .i64 z)) hw1) rfl ?_
   refine kcall_of (cNew_spec o' wi (S.tabs.length + j) c (wdF S.cs c) (by omega) hw2 hw3) ?_
   rintro v w37 ⟨rfl, h37, hs37, hC37⟩
   refine kext_at rfl ?_
   refine kext_at rfl ?_
   rw [keq_nil_nil' ifErr]
   obtain ⟨t1, t2, t3, t4, t5⟩ := hTU
   have t2' := h37.get t2 (fun h => h)
   have lb1 := lt_of_blk t2
   have lb2 := lt_of_blk t4
   refine kB_at ?_
   refine kIf_F rfl ?_
   refine kN_at ?_
   refine kfld_of ?_
   refine kld_at t2' rfl ?_
   have hlkn := lk_none (fun d => ptrV (pc d)) (c : Int) ((listF m).take q) (fun x hx e => hnin (by
    have : x = c := by omega
    exact this ▸ hx))
   refine kmapUp_of Tryz.underlying316 Tryz.underlying3 (t4.same h37) hlkn fun w45 h45 hs45 hM45 => ?_
   refine add_at (by omega) (by omega) ?_
   rw [cast_succ]
   have hsi := mi.size
   have m45 : Mod (fun k => k = w13.heap.size) w24 w45 := (hmi2.trans (Mod.of_same h37)).trans h45
   have lwi := mi.size
   have ecl : (listF m).take (q + 1) = (listF m).take q ++ [c] := by
    rw [List.take_add_one, List.getElem?_eq_getElem hlq, hcq]; rfl
   refine hJ2 _ _ hlq ⟨rfl, ext o' wi.heap.size (.col (S.tabs.length + j) c), updN pc c wi.heap.size, hlo.trans (LabEq.ext wi o' _) mi.size, m45, ?_, ?_, ?_, ?_, ?_⟩
   ·unfold ext; rw [if_pos lb1]; exact t1
   ·exact h45.get t2' (by omega)
   ·unfold ext; rw [if_pos lb2]; exact t3
   ·have e : ((listF m).take (q + 1)).map (fun (d : Nat) => ((d : Int), ptrV (updN pc c wi.heap.size d))) = ((listF m).take q).map (fun (d : Nat) => ((d : Int), ptrV (pc d))) ++ [((c : Int), ptrV wi.heap.size)] := by
     rw [ecl, List.map_append, List.map_cons, List.map_nil, updN_same]
     congr 1
     apply List.map_congr_left
     intro d hd
     rw [updN_ne _ (by rintro rfl; exact hnin hd)]
    rw [e]; exact hM45
   ·intro d hd
    rw [ecl] at hd
    rcases List.mem_append.1 hd with hd1 | hd1
    ·rw [updN_ne _ (fun e : d = c => hnin (e ▸ hd1))]
     refine (((t5 d hd1).frame h37 (fun _ _ _ _ h => h) (LabEq.ext wi o' _)).frame h45 (fun k t e et ek => ?_) (LabEq.refl _ _))
     subst ek
     unfold ext at e
     rw [if_pos lb2, t3] at e
     cases e
     rcases et with h | h | h <;> cases h
    ·have : d = c := by simpa using hd1
     subst this
     rw [updN_same]
     refine hC37.frame h45 (fun k t e et ek => ?_) (LabEq.refl _ _)
     subst ek
     unfold ext at e
     rw [if_pos lb2, t3] at e
     cases e
     rcases et with h | h | h <;> cases h
  ·have : q = (listF m).length := by omega
   subst this
   rw [List.take_length] at hTU
   have hPi := hP1.frame mi (fun _ _ _ h => h) hlo
   have hbi := hPi.here
   obtain ⟨ta, tn, tc, et, hts, htn⟩ := hPi.tabs.is
   have htn : tn = S.tabs.length + j := by
    have := htn rfl
    rw [List.length_map, List.length_range, htl] at this
    exact this
   rw [et] at hbi
   subst htn
   refine kN_at ?_
   refine kfld_of ?_
   refine kld_at hbi rfl ?_
   refine kbldS_of (cs := [ptrV w19.heap.size]) rfl fun w51 h51 hs51 hb51 => ?_
   have hP51 := hPi.frame h51 (fun _ _ _ h => h) (LabEq.cut wi o')
   have ht51 := hP51.tabs
   rw [et] at ht51
   have hmle := hP1.mle
   refine ksem_append apTab (by omega) ht51 (Src.ofSlIs (hk := slTab_is.choose_spec) 1 (SlIs.blk hb51 rfl) rfl) (by simp; omega) (by simp; omega) ?_
   intro v' w53 ho53 hm53 hf53
   have hb53 := hm53.get (h51.get hbi (fun h => h)) (fun e => by
    have := hP51.tabsl b (by rw [et]; exact e)
    rw [hP51.lab] at this; cases this)
   obtain ⟨a', n', c', rfl, _⟩ := ho53.is
   refine kN_at ?_
   refine kfld_of ?_
   refine kst1_of hb53 rfl rfl (by simp) fun w55 h55 hs55 hb55 => ?_
   simp only [List.setIfInBounds_toArray, List.set_cons_succ, List.set_cons_zero] at hb55
   refine add_at (by omega) (by omega) ?_
   have hm55 : Mod (fun k => k = b ∨ vblk p1.tv k) w51 w55 := (hm53.mono fun k _ e => .inr (by rw [et]; exact e)).trans (h55.mono fun k _ e => .inl e)
   have lb51 := lt_of_blk hP51.here
   have hTA := hTU.done
   have lw51 : wi.heap.size ≤ w51.heap.size := h51.size
   have hlt1 : LabEq w51 (cutL o' wi.heap.size) (ext (cutL o' wi.heap.size) w51.heap.size .tabs) := LabEq.ext _ _ _
   have hTA51 : TabAt (ext (cutL o' wi.heap.size) w51.heap.size .tabs) w55 w19.heap.size (S.tabs.length + j) (compsM S.masks (S.tabs.length + j)) (wdF S.cs) pc TabM.empty := by
    rw [hcomps]
    refine ((hTA.frame h51 (fun _ _ _ _ h => h) (LabEq.cut wi o')).frame hm55 (fun k t e et2 ek => ?_) hlt1)
    rcases ek with rfl | ek
    ·rw [hP51.lab] at e; cases e
     rcases et2 with h | h | h | ⟨d, h | h | h⟩ <;> cases h
    ·rw [hP51.tabsl k ek] at e; cases e
     rcases et2 with h | h | h | ⟨d, h | h | h⟩ <;> cases h
   have hnew := hP51.addTab (tv' := .slice a' n' c') (bt := w19.heap.size) (pc' := pc) (by rw [htl]; exact hi) hlt1 hm55 hb55 (ho53.mod h55 fun k hk e => by
     subst e
     rcases hf53 _ hk with h | h
     ·have := hP51.tabsl _ (by rw [et]; exact h)
      rw [hP51.lab] at this; cases this
     ·omega) (fun k hk => by
     unfold ext
     rcases hf53 k hk with h | h
     ·have h' : vblk p1.tv k := by rw [et]; exact h
      have := hP51.tabs.vblk_lt h'
      rw [if_pos this]
      exact hP51.tabsl k h'
     ·rw [if_neg (by omega)]) (by rw [htl]; exact hTA51)
   rw [layS_1] at hnew
   have hJt : natV (S.tabs.length + (j + 1)) = .int .i64 (((S.tabs.length + j : Nat) : Int) + 1) := by
    unfold natV
    congr 1
   rw [← hJt]
   have lwi := mi.size
   refine hJ _ _ (by omega) ⟨rfl, by omega, cutL (ext (cutL o' wi.heap.size) w51.heap.size .tabs) w55.heap.size, _, fun k hk => ?_, hnew.frame (Mod.refl (fun _ => False) _) (fun _ _ _ h => h) (LabEq.cut w55 _), ?_, fun k hk => cutL_none hk⟩
   ·have h1 := hm1.size
    have h2 := hm55.size
    unfold cutL ext
    rw [if_pos (by omega), if_pos (by omega)]
    show (if k < wi.heap.size then o' k else none) = o k
    rw [if_pos (by omega), hlo k (by omega)]
    exact hl1 k hk
   ·refine hm1.trans' ((Mod.of_same (mi.trans h51)).trans (hm55.mono fun k hk e => ?_))
    rcases Nat.lt_or_ge k w.heap.size with hkw | hkw
    ·left
     have hlab : ∃ t, o k = some t := by
      have h1 := hm1.size
      have e1 : cutL o' wi.heap.size k = o k := by
       unfold cutL
       rw [if_pos (by omega), hlo k (by omega)]
       exact hl1 k hkw
      rw [← e1]
      rcases e with rfl | e
      ·exact ⟨_, hP51.lab⟩
      ·exact ⟨_, hP51.tabsl k e⟩
     obtain ⟨t, ht⟩ := hlab
     exact ⟨t, ht, trivial⟩
    ·exact .inr hkw
 ·have : j = S.masks.length - S.tabs.length := by rw [hms] at hge; omega
  subst this
  exact ⟨rfl, o1, p1, hl1, hP1, hm1, hc1⟩
end
section
attribute [local irreducible] kO kB kStr kInt kN kG kIf kfld kld kldN kst knew kmap kbld kbldS kext kcnv klenStr klen kcap kprt kprtN kbool kint kstr keq kun ksl kix kiv kta kmk kmm ksem ksemU kextf kcallV kcallM kcall kL
def FitsP (cs : List Comp) (q : Part) : Prop := ∃ c : Nat, q.comp = c ∧ c < cs.length ∧ q.clean (wdF cs c)
theorem clean_get {q : Part} {wd j : Nat} (h : q.clean wd) (h1 : 1 ≤ wd) (hj : j < 4 - wd) : q.cells[1 + wd + j]? = some (.int .i64 0) := by
 unfold Part.clean Part.vals at h
 have hw' : wd = 1 ∨ wd = 2 ∨ wd = 3 := by omega
 have hj' : j = 0 ∨ j = 1 ∨ j = 2 := by omega
 rcases hw' with rfl | rfl | rfl <;> rcases hj' with rfl | rfl | rfl <;> first | omega | (simp at h; simp [Part.cells, h])
theorem sFits_spec {o : Lab} {w : World} {b : Nat} {p : Ptrs} {S : SM} (h : StoreP o w b p S) (q : Part) (hq : FitsP S.cs q) :
  Meets Tryz.prog 183 #[ptrV b, .agg q.cells.toArray] w fun v w' => v = .bool true ∧ Same w w' := by
 obtain ⟨c, hqc, hcl, hcln⟩ := hq
 obtain ⟨hw1, hw2, hw3⟩ := wdF_of h.good hcl
 have hg := h.good.1
 rw [ptrV]
 refine f183_ok ?_
 unfold f183
 refine knew_of fun w2 hm2 hs2 hb2 => ?_
 have hb2 : blk w2.drew w.heap.size = some (.cells q.cells.toArray 102) := hb2
 have m2 := hm2.drew
 generalize w2.drew = wa at *
 have hba := m2.get h.here (fun h => h)
 refine kfld_of ?_
 refine kld_of (v := .int .i64 c) hb2 (by simp [Part.cells, hqc]) ?_
 refine kG_of rfl ?_
 refine lss_at ?_
 refine kB_at ?_
 refine kIf_T (notT (decF (by omega))) ?_
 refine kfld_of ?_
 refine kld_of (v := .int .i64 c) hb2 (by simp [Part.cells, hqc]) ?_
 refine kG_of rfl ?_
 refine kN_at ?_
 refine kfld_of ?_
 refine kfld_of ?_
 refine kld_at hba rfl ?_
 refine kG_of rfl ?_
 refine klen_at ?_
 refine geq_at ?_
 refine kB_at ?_
 refine kIf_F (decF (by omega)) ?_
 refine kfld_of ?_
 refine kN_at ?_
 refine kfld_of ?_
 refine kfld_of ?_
 refine kld_at hba rfl ?_
 refine kG_of rfl ?_
 refine kfld_of ?_
 have hb2 : blk wa.drew w.heap.size = _ := hb2
 have hba : blk wa.drew b = _ := hba
 have m2 := m2.drew
 generalize wa.drew = wb at *
 refine kld_of (v := .int .i64 c) hb2 (by simp [Part.cells, hqc]) ?_
 refine kG_of rfl ?_
 refine kixfld_of (F := Comp.cells) (fun _ => rfl) (h.sch.same m2) hcl (v := .int .i64 (wdF S.cs c)) (congrArg (fun z : Int => some (Value.int .i64 z)) hw1) rfl ?_
 refine kG_of rfl ?_
 refine ksl_arr_lo hw3 ?_
 refine klen_at ?_
 refine kL1_of (4 - wdF S.cs c) (fun j x wr => x = .int .i64 j ∧ Same wb wr) ⟨lI1_0 ⟨rfl, Mod.refl _ _⟩, fun x wr hx => ?_⟩
 obtain ⟨j, hj, ⟨rfl, hm⟩, hJ⟩ := lI1_step hx
 unfold f183_2
 refine lss_at ?_
 refine kB_at ?_
 refine kIf_dec (fun hlt => ?_) (fun hge => ?_)
 ·have hlt : j < 4 - wdF S.cs c := by omega
  unfold f183_3
  rw [kix_slice]
  refine kG_of (by omega) ?_
  rw [add_mk, if_neg (by omega)]
  refine kld_of (v := .int .i64 0) (hm.get hb2 (fun h => h)) ?_ ?_
  ·have := clean_get hcln hw2 hlt
   simpa using this
  refine neq_at ?_
  refine kB_at ?_
  refine kIf_F rfl ?_
  refine add_at (by omega) (by omega) ?_
  rw [cast_succ]
  exact hJ _ _ hlt ⟨rfl, hm⟩
 ·unfold f183_5
  exact ⟨rfl, m2.trans hm⟩
theorem has_spec (m : Nat) (n : Int) (hm : m < 4294967296) (h1 : -9223372036854775808 ≤ n) (h2 : n ≤ 9223372036854775807) (w : World) : Meets Tryz.prog 184 #[msk m, .int .i64 n] w fun v w' => v = .bool (decide (m &&& bitF n ≠ 0)) ∧ w' = w := by
 refine f184_ok ?_
 unfold f184
 refine kcall_of (bit_spec n h1 h2 w) ?_
 rintro v w' ⟨rfl, rfl⟩
 rw [msk, msk, kint_and, u32_and hm (bitF_lt n), kint_neq]
 refine ⟨?_, rfl⟩
 congr 1
 simp
def maskP (L : List Part) : Nat := L.foldl (fun m q => m ||| bitF q.comp) 0
theorem maskP_snoc (L : List Part) (q : Part) : maskP (L ++ [q]) = maskP L ||| bitF q.comp := by simp [maskP]
theorem mask_fold (cs : List Comp) (hcs : cs.length ≤ 16) (c : Nat) : ∀ (L : List Part) (m : Nat), (∀ q ∈ L, FitsP cs q) → ((L.foldl (fun m q => m ||| bitF q.comp) m).testBit c = true ↔ m.testBit c = true ∨ ∃ q ∈ L, q.comp = (c : Int))
 | [], m, _ => by simp
 | q :: L, m, h => by
  rw [List.foldl_cons, mask_fold cs hcs c L _ (fun x hx => h x (by simp [hx])), Nat.testBit_or, Bool.or_eq_true]
  obtain ⟨d, e, hd, _⟩ := h q (by simp)
  have hb : (bitF q.comp).testBit c = true ↔ q.comp = (c : Int) := by
   rw [e, bitF_nat (by omega), Nat.testBit_two_pow]
   simp only [decide_eq_true_eq]
   omega
  rw [hb]
  constructor
  ·rintro ((h1 | h1) | ⟨x, hx, e⟩)
   ·exact .inl h1
   ·exact .inr ⟨q, by simp, h1⟩
   ·exact .inr ⟨x, by simp [hx], e⟩
  ·rintro (h1 | ⟨x, hx, ex⟩)
   ·exact .inl (.inl h1)
   ·rcases List.mem_cons.1 hx with rfl | hx
    ·exact .inl (.inr ex)
    ·exact .inr ⟨x, hx, ex⟩
theorem maskP_bit (cs : List Comp) (hcs : cs.length ≤ 16) (L : List Part) (h : ∀ q ∈ L, FitsP cs q) (c : Nat) : (maskP L).testBit c = true ↔ ∃ q ∈ L, q.comp = (c : Int) := by
 unfold maskP
 rw [mask_fold cs hcs c L 0 h]
 simp
theorem maskP_lt (cs : List Comp) (hcs : cs.length ≤ 16) (L : List Part) (h : ∀ q ∈ L, FitsP cs q) : maskP L < 2 ^ cs.length := by
 apply Nat.lt_pow_two_of_testBit
 intro i hi
 cases hb : (maskP L).testBit i with
 | false => rfl
 | true =>
  obtain ⟨q, hq, e⟩ := (maskP_bit cs hcs L h i).1 hb
  obtain ⟨d, e2, hd, _⟩ := h q hq
  omega
theorem apPart : appT Tryz.prog 83 6 48 = true := by kernel_rfl
theorem slPart : isSlT Tryz.prog 83 = true := by kernel_rfl
theorem slPart_is : ∃ e, Tryz.prog.underlying 83 = some (.slice e) := slT_of (by kernel_rfl)
theorem ones_parts : ∀ L : List Part, oneCells (L.flatMap Part.cells) = true
 | [] => rfl
 | q :: L => by
  rw [List.flatMap_cons]
  show oneCells (.int .i64 q.comp :: .int .i64 q.v0 :: .int .i64 q.v1 :: .int .i64 q.v2 :: .int .i64 q.v3 :: .int .i64 q.tick :: L.flatMap Part.cells) = true
  simp only [oneCells, ones_parts L]; rfl
theorem cloneP_spec {w : World} {a : Option Addr} {L : List Part} {c : Nat} (hs : SlIs w a L.length 6 (L.flatMap Part.cells)) (hn : L.length ≤ 1000000) :
  Meets Tryz.prog 98 #[.slice a L.length c] w fun v w' => Own w' v 6 (L.flatMap Part.cells) ∧ Same w w' ∧ (∀ k, vblk v k → w.heap.size ≤ k) := by
 have hfl := flat_len Part.cells 6 (fun _ => rfl) L
 refine f98_ok ?_
 unfold f98
 rw [keq_sl_nil slPart]
 cases a with
 | none =>
  have hL : L.length = 0 := by rcases hs.2 with h | ⟨_, _, _, _, _, h, _⟩; exact h; cases h
  have : L = [] := List.eq_nil_of_length_eq_zero hL
  subst this
  refine kB_at ?_
  refine kIf_T rfl ?_
  exact ⟨Own.nil _ _, Mod.refl _ _, fun b hb => by obtain ⟨_, _, _, h⟩ := hb; cases h⟩
 | some a =>
  refine kB_at ?_
  refine kIf_F rfl ?_
  unfold f98_0
  refine kbldS_of (cs := []) rfl fun w5 h5 hs5 hb5 => ?_
  refine ksem_append apPart (by omega) (vs := []) (Own.blk hb5 (n := 0) (by simp) (by simp [maxLen])) (Src.ofSlIs (hk := slPart_is.choose_spec) c (hs.same h5) (ones_parts L)) (by simp [hfl]; omega) (by simp [hfl]; omega) ?_
  intro v' w' ho hm hf
  refine ⟨by simpa using ho, Mod.after h5 hm (fun b hb => by rw [vblk_new hb]; exact Nat.le_refl _), fun b hb => ?_⟩
  rcases hf b hb with h | h
  ·rw [vblk_new h]; exact Nat.le_refl _
  ·omega
end
section
attribute [local irreducible] kO kB kStr kInt kN kG kIf kfld kld kldN kst knew kmap kbld kbldS kext kcnv klenStr klen kcap kprt kprtN kbool kint kstr keq kun ksl kix kiv kta kmk kmm ksem ksemU kextf kcallV kcallM kcall kL
def NoTwice (L : List Part) : Prop := (L.map (·.comp)).Nodup
theorem sGathered_spec {o : Lab} {w : World} {b : Nat} {p : Ptrs} {S : SM} (h : StoreP o w b p S) {L : List Part} {a : Option Addr} {c : Nat} (hs : SlIs w a L.length 6 (L.flatMap Part.cells)) (hn : L.length ≤ 1000000) (hf : ∀ q ∈ L, FitsP S.cs q) (hnt : NoTwice L) :
  Meets Tryz.prog 126 #[ptrV b, .slice a L.length c] w fun v w' => ∃ (sv : Value) (L' : List Part), v = .tuple #[msk (maskP L), sv, .nilIface] ∧ L'.Perm L ∧ L'.Pairwise (fun x y => x.comp ≤ y.comp) ∧ Own w' sv 6 (L'.flatMap Part.cells) ∧ Same w w' ∧ ∀ k, vblk sv k → w.heap.size ≤ k := by
 have hg := h.good.1
 have hp16 : 2 ^ S.cs.length ≤ 2 ^ 16 := Nat.pow_le_pow_right (by omega) hg
 refine f126_ok ?_
 unfold f126
 refine klen_at ?_
 refine kL3_of L.length (fun j x y z wr => z = .int .i64 j ∧ x = msk (maskP (L.take j)) ∧ y = .bool false ∧ Same w wr) ⟨lI3_0 ⟨rfl, rfl, rfl, Mod.refl _ _⟩, fun x y z wr hx => ?_⟩
 obtain ⟨j, hj, ⟨rfl, rfl, rfl, hm⟩, hJ⟩ := lI3_step hx
 unfold f126_0
 refine lss_at ?_
 refine kB_at ?_
 refine kIf_dec (fun hlt => ?_) (fun hge => ?_)
 ·have hlt : j < L.length := by omega
  have hfj := hf _ (List.getElem_mem hlt)
  obtain ⟨d, e1, e2, e3⟩ := id hfj
  have hft : ∀ q ∈ L.take j, FitsP S.cs q := fun q hq => hf q (List.mem_of_mem_take hq)
  have hml := maskP_lt S.cs hg _ hft
  have hsn : maskP (L.take (j + 1)) = maskP (L.take j) ||| bitF L[j].comp := by
   rw [List.take_add_one, List.getElem?_eq_getElem hlt]; exact maskP_snoc _ _
  unfold f126_1
  refine kixldN_of (F := Part.cells) (sz := 6) (fun _ => rfl) (by omega) (hs.same hm) hlt rfl ?_
  refine knew_of fun w7 h7 hs7 hb7 => ?_
  refine kst_of (vs := (L[j]).cells) hb7 rfl rfl rfl (by simp) (by simp [Part.cells]) fun w8 h8 hs8 hb8 => ?_
  have hb8 : blk w8 wr.heap.size = some (.cells (L[j]).cells.toArray 102) := hb8
  have m8 : Same wr w8 := h7.trans' (h8.mono fun k _ e => .inr (by omega))
  refine kldN_at hb8 rfl (by omega) ?_
  refine kcall_of (sFits_spec (h.same (hm.trans m8)) L[j] hfj) ?_
  rintro v w11 ⟨rfl, h11⟩
  have hb11 := h11.get hb8 (fun h => h)
  have m11 := m8.trans h11
  refine not_at ?_
  refine kB_at ?_
  refine kIf_F rfl ?_
  refine kB_at ?_
  refine kIf_T rfl ?_
  refine kfld_of ?_
  refine kld_of (v := .int .i64 d) hb11 (by simp [Part.cells, e1]) ?_
  refine kcall_of (has_spec (maskP (L.take j)) (d : Int) (by omega) (by omega) (by omega) w11) ?_
  rintro v w20 ⟨rfl, rfl⟩
  have hno : maskP (L.take j) &&& bitF (d : Int) = 0 := by
   apply Nat.eq_of_testBit_eq
   intro i
   rw [Nat.testBit_and, Nat.zero_testBit, bitF_nat (by omega), Nat.testBit_two_pow]
   by_cases hdi : d = i
   ·subst hdi
    have : (maskP (L.take j)).testBit d = false := by
     cases hb : (maskP (L.take j)).testBit d with
     | false => rfl
     | true =>
      obtain ⟨q, hq, e⟩ := (maskP_bit S.cs hg _ hft d).1 hb
      obtain ⟨k, hk, rfl⟩ := List.mem_iff_getElem.1 hq
      have hkj : k < j := by simp at hk; omega
      rw [List.getElem_take] at e
      have hp := (List.pairwise_iff_getElem.1 hnt) k j (by simp; omega) (by simpa using hlt) hkj
      simp only [List.getElem_map] at hp
      exact absurd (e.trans e1.symm) hp
    rw [this]; simp
   ·simp [hdi]
  rw [hno, show decide ((0 : Nat) ≠ 0) = false from rfl]
  refine kfld_of ?_
  refine kld_of (v := .int .i64 d) hb11 (by simp [Part.cells, e1]) ?_
  refine kcall_of (with_spec (maskP (L.take j)) (d : Int) (by omega) (by omega) (by omega) w20) ?_
  rintro v w24 ⟨rfl, rfl⟩
  refine add_at (by omega) (by omega) ?_
  rw [cast_succ]
  refine hJ _ _ _ _ hlt ⟨rfl, ?_, rfl, hm.trans m11⟩
  rw [hsn, e1]
 ·have : j = L.length := by omega
  subst this
  rw [List.take_length]
  unfold f126_5
  refine kB_at ?_
  refine kIf_F rfl ?_
  unfold f126_6
  refine kcall_of (cloneP_spec (hs.same hm) hn) ?_
  rintro v w31 ⟨ho, h31, hf31⟩
  refine kcall_of (sorted_spec ho (by omega)) ?_
  rintro v2 w33 ⟨L', g1, g2, g3, g4⟩
  exact ⟨v, L', rfl, g1, g2, g3, (hm.trans h31).trans' (g4.mono fun k _ e => .inr (by have := hf31 k e; have := hm.size; omega)), fun k e => by have := hf31 k e; have := hm.size; omega⟩
end
section
attribute [local irreducible] kO kB kStr kInt kN kG kIf kfld kld kldN kst knew kmap kbld kbldS kext kcnv klenStr klen kcap kprt kprtN kbool kint kstr keq kun ksl kix kiv kta kmk kmm ksem ksemU kextf kcallV kcallM kcall kL
def pushC (T : TabM) (L : List Part) : TabM := ⟨T.rows, fun c => T.col c ++ L.filter fun q => decide (q.comp = (c : Int))⟩
theorem pushC_nil (T : TabM) : pushC T [] = T := by simp [pushC]
theorem apEnt : appT Tryz.prog 317 2 16 = true := by kernel_rfl
theorem slEnt_is : ∃ e, Tryz.prog.underlying 317 = some (.slice e) := slT_of (by kernel_rfl)
theorem TabAt.col {o : Lab} {w : World} {b i : Nat} {comps : List Nat} {wd pc : Nat → Nat} {T : TabM} (h : TabAt o w b i comps wd pc T) {c : Nat} (hc : c ∈ comps) : ColAt o w (pc c) i c (wd c) (T.col c) := by
 obtain ⟨_, _, _, _, _, _, _, _, hC⟩ := h
 exact hC c hc
theorem TabAt.ext {o : Lab} {w : World} {b i : Nat} {comps : List Nat} {wd pc : Nat → Nat} {T T' : TabM} (h : TabAt o w b i comps wd pc T) (hr : T'.rows = T.rows) (hc : ∀ c ∈ comps, T'.col c = T.col c) : TabAt o w b i comps wd pc T' := by
 obtain ⟨h1, rv, bm, h2, h3, h4, h5, h6, hC⟩ := h
 exact ⟨h1, rv, bm, h2, hr ▸ h3, h4, h5, h6, fun c hcm => by rw [hc c hcm]; exact hC c hcm⟩
theorem StoreP.ptab {o : Lab} {w : World} {b : Nat} {p : Ptrs} {S : SM} (h : StoreP o w b p S) {n : Nat} (hn : n < S.tabs.length) : ∃ ta tc, p.tv = .slice ta S.tabs.length tc ∧ SlIs w ta (List.range S.tabs.length).length 1 ((List.range S.tabs.length).map fun i => ptrV (p.pt i)) := by
 obtain ⟨ta, tn, tc, et, hts, htn⟩ := h.tabs.is
 have htn : tn = S.tabs.length := by simpa using htn rfl
 subst htn
 exact ⟨ta, tc, et, by simpa using hts⟩
theorem tab_set {S : SM} {n : Nat} (hn : n < S.tabs.length) (X : TabM) (h : n < (S.tabs.set n X).length) : (S.tabs.set n X)[n]'h = X := by simp
theorem StoreP.pushed {o o' : Lab} {w w' : World} {b : Nat} {p : Ptrs} {S : SM} {n : Nat} (hn : n < S.tabs.length) {L : List Part} {q : Part} {c : Nat} (h : StoreP o w b p { S with tabs := S.tabs.set n (pushC S.tabs[n] L) }) (hq : q.comp = (c : Int)) (hc : c ∈ compsM S.masks n)
  (hl : LabEq w o o') (hm : Mod (FP o (colTag n c)) w w') (hC : ColAt o' w' (p.pc n c) n c (wdF S.cs c) ((pushC S.tabs[n] L).col c ++ [q])) : StoreP o' w' b p { S with tabs := S.tabs.set n (pushC S.tabs[n] (L ++ [q])) } := by
 have hn' : n < (S.tabs.set n (pushC S.tabs[n] L)).length := by simpa using hn
 have hT := h.tab n hn'
 have e : ({ S with tabs := S.tabs.set n (pushC S.tabs[n] L) } : SM).tabs[n] = pushC S.tabs[n] L := tab_set hn _ hn'
 rw [e] at hT
 have hT' := (hT.setCol hc hl (fun _ h => h) hm hC).ext (T' := pushC S.tabs[n] (L ++ [q])) rfl (fun d hd => by
  unfold pushC
  show S.tabs[n].col d ++ (L ++ [q]).filter _ = updC (pushC S.tabs[n] L).col c _ d
  rw [List.filter_append]
  by_cases hdc : d = c
  ·subst hdc
   rw [updC_same]
   simp [pushC, hq]
  ·rw [updC_ne _ hdc]
   have : ¬ (c : Int) = (d : Int) := by omega
   simp [pushC, hq, this])
 have := h.setTab hn' hl (hm.mono fun k _ hk => FP.mono (fun t ht => .inr (.inr (.inr ⟨c, ht⟩))) hk) hT'
 simpa using this
def enterS (S : SM) (n : Nat) (i : Nat) (g : Int) (L : List Part) (hn : n < S.tabs.length) : SM :=
 { S with tabs := S.tabs.set n ⟨S.tabs[n].rows ++ [((i : Int), g)], (pushC S.tabs[n] L).col⟩, spots := S.spots.set i (n, S.tabs[n].rows.length) }
theorem sEnter_spec {o : Lab} {w : World} {b : Nat} {p : Ptrs} {S : SM} (h : StoreP o w b p S) {n : Nat} (hn : n < S.tabs.length) {i : Nat} (hi : i < S.spots.length) (g : Int) {L : List Part} {a : Option Addr} {c : Nat} (hs : SlIs w a L.length 6 (L.flatMap Part.cells))
  (hLb : ∀ k f, a = some ⟨k, f, none⟩ → o k = none) (hn16 : L.length ≤ 64) (hf : ∀ q ∈ L, FitsP S.cs q) (hin : ∀ q ∈ L, ∃ c : Nat, q.comp = (c : Int) ∧ c ∈ compsM S.masks n) (hcol : ∀ c ∈ compsM S.masks n, (S.tabs[n].col c).length + L.length < 1000000) (hrows : S.tabs[n].rows.length < 1000000) :
  Meets Tryz.prog 129 #[ptrV b, entV i g, natV n, .slice a L.length c] w fun v w' => v = .nilIface ∧ Turned o w b (enterS S n i g L hn) w' := by
 refine f129_ok ?_
 unfold f129
 refine knew_of fun w2 hm2 hs2 hb2 => ?_
 have hb2 : blk w2 w.heap.size = some (.cells #[.int .i64 i, .int .i64 g] 176) := hb2
 have hP2 := h.cut hm2
 have hs2' := hs.same hm2
 have hLb2 : ∀ k f, a = some ⟨k, f, none⟩ → cutL o w.heap.size k = none := fun k f e => by
  unfold cutL; split
  ·exact hLb k f e
  ·rfl
 generalize ho0 : cutL o w.heap.size = o0 at *
 have ho0n : ∀ k, w.heap.size ≤ k → o0 k = none := fun k hk => by rw [← ho0]; exact cutL_none hk
 obtain ⟨ta, tc, et, hts⟩ := hP2.ptab hn
 have hb2b := hP2.here
 rw [et] at hb2b
 rw [ptrV]
 refine kN_at ?_
 refine kfld_of ?_
 refine kld_at hb2b rfl ?_
 rw [natV]
 have ele : (List.range S.tabs.length).length = S.tabs.length := List.length_range
 refine kixld_of (F := fun i => ptrV (p.pt i)) (c := tc) (l := List.range S.tabs.length) hts (show n < (List.range S.tabs.length).length by omega) rfl ?_ |> fun h => by rw [ele] at h; exact h
 rw [List.getElem_range]
 refine klen_at ?_
 refine kL1_of L.length (fun j x wr => x = .int .i64 j ∧ ∃ o', LabEq w2 o0 o' ∧ StoreP o' wr b p { S with tabs := S.tabs.set n (pushC S.tabs[n] (L.take j)) } ∧ Mod (FP o0 (tabTag n)) w2 wr) ⟨lI1_0 ⟨rfl, o0, LabEq.refl _ _, ?_, Mod.refl _ _⟩, fun x wr hx => ?_⟩
 ·rw [List.take_zero, pushC_nil, List.set_getElem_self]; exact hP2
 obtain ⟨j, hj, ⟨rfl, o', hl', hP', hm'⟩, hJ⟩ := lI1_step hx
 have hsL : SlIs wr a L.length 6 (L.flatMap Part.cells) := hs2'.mod hm' fun k f e ⟨t, e1, _⟩ => by rw [hLb2 k f e] at e1; cases e1
 have hn' : n < (S.tabs.set n (pushC S.tabs[n] (L.take j))).length := by simpa using hn
 unfold f129_0
 refine lss_at ?_
 refine kB_at ?_
 refine kIf_dec (fun hlt => ?_) (fun hge => ?_)
 ·have hlt : j < L.length := by omega
  obtain ⟨d, hd1, hd2⟩ := hin _ (List.getElem_mem hlt)
  obtain ⟨d', hf1, hf2, hf3⟩ := hf _ (List.getElem_mem hlt)
  obtain rfl : d' = d := by omega
  have hLj : L.take (j + 1) = L.take j ++ [L[j]] := by rw [List.take_add_one, List.getElem?_eq_getElem hlt]; rfl
  unfold f129_1
  refine kixldN_of (F := Part.cells) (sz := 6) (fun _ => rfl) (by omega) hsL hlt rfl ?_
  refine knew_of fun w13 h13 hs13 hb13 => ?_
  refine kst_of (vs := (L[j]).cells) hb13 rfl rfl rfl (by simp) (by simp [Part.cells]) fun w14 h14 hs14 hb14 => ?_
  have hb14 : blk w14 wr.heap.size = some (.cells (L[j]).cells.toArray 102) := hb14
  have m14 : Same wr w14 := h13.trans' (h14.mono fun k _ e => .inr (by omega))
  have m14 := m14.drew
  have hb14 : blk w14.drew wr.heap.size = _ := hb14
  have hsz14 : w14.drew.heap.size = wr.heap.size + 1 := by show w14.heap.size = _; omega
  generalize w14.drew = wa at *
  have hPa := hP'.frame m14 (fun _ _ _ h => h) (LabEq.cut wr o')
  have hT := hPa.tab n hn'
  rw [show ({ S with tabs := S.tabs.set n (pushC S.tabs[n] (L.take j)) } : SM).tabs[n] = pushC S.tabs[n] (L.take j) from tab_set hn _ hn'] at hT
  have hCol := hT.col hd2
  obtain ⟨q1, rv, bm, q2, q3, q4, q5, q6, q7⟩ := id hT
  rw [ptrV]
  refine kN_at ?_
  refine kfld_of ?_
  refine kld_at q2 rfl ?_
  refine kG_of rfl ?_
  refine kfld_of ?_
  refine kld_of (v := .int .i64 d') hb14 (by simp [Part.cells, hd1]) ?_
  refine kG_of rfl ?_
  refine klook_of Tryz.underlying316 Tryz.underlying3 zCol q6 (r := some (_, _)) (by rw [lk_comps, if_pos hd2]) ?_
  refine kG_of rfl ?_
  refine kldN_at hb14 rfl (by omega) ?_
  refine kG_of rfl ?_
  have hlenc : ((pushC S.tabs[n] (L.take j)).col d').length < 1000000 := by
   have h1 := hcol d' hd2
   have h2 := List.length_filter_le (fun q : Part => decide (q.comp = (d' : Int))) (L.take j)
   have h3 : (L.take j).length ≤ L.length := by rw [List.length_take]; omega
   show (S.tabs[n].col d' ++ (L.take j).filter _).length < 1000000
   rw [List.length_append]
   omega
  refine kcall_of (cPush_spec hCol (L[j]) ⟨hd1, hf3⟩ hlenc) ?_
  rintro v w23 ⟨rfl, o2, hl2, hC2, hm23⟩
  refine kext_at rfl ?_
  refine kext_at rfl ?_
  rw [keq_nil_nil' ifErr]
  refine kB_at ?_
  refine kIf_F rfl ?_
  refine add_at (by omega) (by omega) ?_
  rw [cast_succ]
  have hPn := hPa.pushed hn hd1 hd2 hl2 hm23 hC2
  rw [← hLj] at hPn
  refine hJ _ _ hlt ⟨rfl, o2, fun k hk => ?_, hPn, ?_⟩
  ·have h1 := hm'.size
   rw [hl2 k (by omega)]
   unfold cutL
   rw [if_pos (by omega)]
   exact hl' k hk
  ·refine hm'.trans' ((Mod.of_same m14).trans (hm23.mono fun k _ hk => ?_))
   obtain ⟨⟨t, e1, e2⟩, e3⟩ := hk.cut
   rcases Nat.lt_or_ge k w2.heap.size with hk2 | hk2
   ·left
    exact ⟨t, by rw [← hl' k hk2]; exact e1, .inr (.inr (.inr ⟨d', e2⟩))⟩
   ·exact .inr hk2
 ·have : j = L.length := by omega
  subst this
  rw [List.take_length] at hP' hn'
  clear hJ hx
  unfold f129_3
  have m3 := (Mod.refl (fun _ => False) wr).drew
  have hPa := hP'.frame m3 (fun _ _ _ h => h) (LabEq.cut wr o')
  have hbe : blk wr.drew w.heap.size = some (.cells #[.int .i64 i, .int .i64 g] 176) := hm'.get hb2 fun ⟨t, e1, _⟩ => by rw [ho0n _ (Nat.le_refl _)] at e1; cases e1
  have hszr : w2.heap.size ≤ wr.drew.heap.size := hm'.size
  have hm3 : Mod (FP o0 (tabTag n)) w2 wr.drew := hm'.drew
  have hlab3 : LabEq w2 o0 (cutL o' wr.heap.size) := fun k hk => by
   have := hm'.size
   unfold cutL
   rw [if_pos (by omega)]
   exact hl' k hk
  have hcut3 : ∀ k, wr.drew.heap.size ≤ k → cutL o' wr.heap.size k = none := fun k hk => cutL_none hk
  generalize hoc : cutL o' wr.heap.size = oc at *
  generalize wr.drew = wa at *
  have hba := hPa.here
  have hT := hPa.tab n hn'
  rw [show ({ S with tabs := S.tabs.set n (pushC S.tabs[n] L) } : SM).tabs[n] = pushC S.tabs[n] L from tab_set hn _ hn'] at hT
  obtain ⟨q1, rv, bm, q2, q3, q4, q5, q6, q7⟩ := id hT
  obtain ⟨ra, rn, rc, rfl, hrs, _⟩ := q3.is
  have hrn : rn = S.tabs[n].rows.length := by
   have := hrs.1
   rw [flat_len entC 2 (fun _ => rfl)] at this
   show rn = (pushC S.tabs[n] L).rows.length
   omega
  subst hrn
  obtain ⟨bs, csc, arr, t, es, hbs, s1, s2, s3⟩ := hPa.spots.viewF (F := spotC) (sz := 2) (fun _ => rfl) (by omega) (show 0 < S.spots.length by omega)
  have hspl := hPa.spotsl bs (by rw [es]; exact ⟨_, _, _, rfl⟩)
  have hsp0 := hPa.spots
  rw [es] at hba hsp0
  rw [ptrV]
  have nbt : bs ≠ p.pt n := fun e => by rw [e, q1] at hspl; cases hspl
  have nbb : b ≠ p.pt n := fun e => by
   have := hPa.lab
   rw [e, q1] at this; cases this
  have lbs := lt_of_blk hbs
  have lpt := lt_of_blk q2
  have he0 : oc w.heap.size = none := by rw [hlab3 _ (by omega)]; exact ho0n _ (Nat.le_refl _)
  have neb : bs ≠ w.heap.size := fun e => by rw [e, he0] at hspl; cases hspl
  have net : p.pt n ≠ w.heap.size := fun e => by rw [e, he0] at q1; cases q1
  refine kN_at ?_
  refine kfld_of ?_
  refine kld_at hba rfl ?_
  refine kG_of rfl ?_
  refine kfld_of ?_
  refine kld_at hbe rfl ?_
  refine kG_of rfl ?_
  refine kN_at ?_
  refine kfld_of ?_
  refine kld_at q2 rfl ?_
  refine kG_of rfl ?_
  refine klen_at ?_
  refine kbld_of (cs := [.int .i64 n, .int .i64 S.tabs[n].rows.length]) rfl ?_
  rw [kix_slice]
  refine kG_of (by simp; omega) ?_
  rw [add_mk, Nat.zero_add, Int.toNat_natCast]
  have hsl := (segL_spec _ _ _ _ (s3 i hi)).1
  rw [Array.length_toList] at hsl
  refine kst_of (vs := spotC (n, S.tabs[n].rows.length)) hbs rfl rfl rfl hsl (by simp [spotC]) fun w40 h40 hs40 hb40 => ?_
  have hb40 : blk w40.drew bs = _ := hb40
  have h40 : Mod (fun k => k = bs) wa w40.drew := h40.drew
  have hbe40 := h40.get hbe neb.symm
  have q240 := h40.get q2 nbt.symm
  have hrv40 : Own w40.drew (.slice ra S.tabs[n].rows.length rc) 2 (S.tabs[n].rows.flatMap entC) := q3.mod h40 fun k hk e => by
   subst e
   rw [q4 _ hk] at hspl; cases hspl
  have hs40' : w40.drew.heap.size = wa.heap.size := hs40
  generalize w40.drew = wb at *
  refine kN_at ?_
  refine kfld_of ?_
  refine kld_at q240 rfl ?_
  refine kG_of rfl ?_
  refine kldN_at hbe40 rfl (by omega) ?_
  refine kG_of rfl ?_
  refine kbldS_of (cs := [.int .i64 i, .int .i64 g]) rfl fun w45 h45 hs45 hb45 => ?_
  have q245 := h45.get q240 (fun h => h)
  refine kG_of (kld_at q245 rfl ⟨rfl, rfl⟩) ?_
  refine ksem_append apEnt (by omega) (hrv40.same h45) (Src.ofSlIs (hk := slEnt_is.choose_spec) 1 (SlIs.blk hb45 rfl) rfl) (by rw [flat_len entC 2 (fun _ => rfl)]; simp; omega) (by rw [flat_len entC 2 (fun _ => rfl)]; simp; omega) ?_
  intro v' w47 ho47 hm47 hf47
  have q247 := hm47.get q245 (fun e => by have := q4 _ e; rw [q1] at this; cases this)
  obtain ⟨a', n', c', rfl, _⟩ := ho47.is
  refine kN_at ?_
  refine kfld_of ?_
  refine kst1_of q247 rfl rfl (by simp) fun w49 h49 hs49 hb49 => ?_
  simp only [List.setIfInBounds_toArray, List.set_cons_succ, List.set_cons_zero] at hb49
  have hall : Mod (fun k => k = bs ∨ k = p.pt n ∨ vblk (.slice ra S.tabs[n].rows.length rc) k) wa w49 := (h40.mono fun k _ e => .inl e).trans ((Mod.of_same h45).trans ((hm47.mono fun k _ e => .inr (.inr e)).trans (h49.mono fun k _ e => .inr (.inl e))))
  have hFP : Mod (FP oc fun t => tabTag n t ∨ t = .spots) wa w49 := hall.mono fun k _ e => by
   rcases e with rfl | rfl | e
   ·exact ⟨_, hspl, .inr rfl⟩
   ·exact ⟨_, q1, .inl (.inl rfl)⟩
   ·exact ⟨_, q4 k e, .inl (.inr (.inl rfl))⟩
  have hlx : LabEq wa oc (ext oc wa.heap.size (.trows n)) := LabEq.ext _ _ _
  have hTn : TabAt (ext oc wa.heap.size (.trows n)) w49 (p.pt n) n (compsM S.masks n) (wdF S.cs) (p.pc n) ⟨S.tabs[n].rows ++ [((i : Int), g)], (pushC S.tabs[n] L).col⟩ := by
   refine ⟨by unfold ext; rw [if_pos lpt]; exact q1, _, bm, hb49, ?_, ?_, by unfold ext; rw [if_pos (lt_of_blk q6)]; exact q5, q6.mod hall ?_, fun d hd => (q7 d hd).frame hall (fun k t e et ek => ?_) hlx⟩
   ·show Own w49 _ 2 ((S.tabs[n].rows ++ [((i : Int), g)]).flatMap entC)
    rw [List.flatMap_append]
    exact ho47.mod h49 fun k hk e => by
     subst e
     rcases hf47 _ hk with h | h
     ·have := q4 _ h; rw [q1] at this; cases this
     ·omega
   ·intro k hk
    unfold ext
    rcases hf47 k hk with h | h
    ·have := q3.vblk_lt h
     rw [if_pos this]; exact q4 k h
    ·rw [if_neg (by have := h45.size; omega)]
   ·rintro (e | e | e)
    ·rw [e, hspl] at q5; cases q5
    ·rw [e, q1] at q5; cases q5
    ·have := q4 _ e; rw [q5] at this; cases this
   ·rcases ek with rfl | rfl | ek
    ·rw [hspl] at e; cases e; rcases et with h | h | h <;> cases h
    ·rw [q1] at e; cases e; rcases et with h | h | h <;> cases h
    ·rw [q4 k ek] at e; cases e; rcases et with h | h | h <;> cases h
  have hspn : Own w49 p.sv 2 ((S.spots.set i (n, S.tabs[n].rows.length)).flatMap spotC) := by
   rw [es]
   refine Own.setF (F := spotC) (fun _ => rfl) hsp0 hbs (x := (n, S.tabs[n].rows.length)) (i := i) ?_ hi
   exact h49.get (hm47.get (h45.get hb40 (fun h => h)) (fun e => by have := q4 _ e; rw [hspl] at this; cases this)) nbt
  have hPn := hPa.setTS hn' hlx hFP hspn (by simp) hTn
  have hSn : ({ ({ S with tabs := S.tabs.set n (pushC S.tabs[n] L) } : SM) with tabs := (S.tabs.set n (pushC S.tabs[n] L)).set n ⟨S.tabs[n].rows ++ [((i : Int), g)], (pushC S.tabs[n] L).col⟩, spots := S.spots.set i (n, S.tabs[n].rows.length) } : SM) = enterS S n i g L hn := by
   unfold enterS
   simp
  rw [hSn] at hPn
  refine ⟨rfl, ?_⟩
  subst ho0
  refine Turned.of (T := fun t => True) hm2 (fun k hk => ?_) hPn (hm3.mono (fun k _ hk => FP.mono (fun _ _ => trivial) hk) |>.trans' (hFP.mono fun k hk e => ?_)) (Mod.refl _ _)
  ·unfold ext
   rw [if_pos (by omega)]
   exact hlab3 k hk
  ·rcases Nat.lt_or_ge k w2.heap.size with hk2 | hk2
   ·left
    obtain ⟨t, e1, _⟩ := e
    exact ⟨t, by rw [← hlab3 k hk2]; exact e1, trivial⟩
   ·exact .inr hk2
end
section
attribute [local irreducible] kO kB kStr kInt kN kG kIf kfld kld kldN kst knew kmap kbld kbldS kext kcnv klenStr klen kcap kprt kprtN kbool kint kstr keq kun ksl kix kiv kta kmk kmm ksem ksemU kextf kcallV kcallM kcall kL
theorem tag_roll_atlas {t : Tag} (h1 : rollTag t) (h2 : atlasTag t) : False := by
 rcases h1 with rfl | rfl | rfl <;> rcases h2 with h | h | h | ⟨i, h⟩ <;> cases h
theorem tag_roll_tab {t : Tag} {i : Nat} (h1 : rollTag t) (h2 : tabTag i t) : False := by
 rcases h1 with rfl | rfl | rfl <;> rcases h2 with h | h | h | ⟨c, h | h | h⟩ <;> cases h
theorem tag_atlas_tab {t : Tag} {i : Nat} (h1 : atlasTag t) (h2 : tabTag i t) : False := by
 rcases h1 with rfl | rfl | rfl | ⟨j, rfl⟩ <;> rcases h2 with h | h | h | ⟨c, h | h | h⟩ <;> cases h
theorem not_FP {o : Lab} {T : Tag → Prop} {k : Nat} {t : Tag} (e : o k = some t) (h : ¬ T t) : ¬ FP o T k := fun ⟨t', e1, e2⟩ => by
 rw [e] at e1; cases e1; exact h e2
theorem StoreP.setRoll {o o' : Lab} {w w' : World} {b : Nat} {p : Ptrs} {S : SM} (h : StoreP o w b p S) {gens : List (Int × Bool)} {free : List Nat} (hl : LabEq w o o') (hm : Mod (FP o rollTag) w w') (hR : RollAt o' w' p.bR gens free) :
  StoreP o' w' b p { S with gens := gens, free := free } where
 lab := by rw [hl b (lt_of_blk h.here)]; exact h.lab
 good := h.good
 tle := h.tle
 mle := h.mle
 sle := h.sle
 here := hm.get h.here (not_FP h.lab (by rintro (h | h | h) <;> cases h))
 roll := hR
 atlas := h.atlas.frame hm (fun k t e et => not_FP e fun h => tag_roll_atlas h et) hl
 sch := h.sch.mod hm fun k f e => not_FP (h.schl k f e).1 (by rintro (h | h | h) <;> cases h)
 schl k f e := ⟨by rw [hl k (h.schl k f e).2]; exact (h.schl k f e).1, Nat.lt_of_lt_of_le (h.schl k f e).2 hm.size⟩
 tabs := h.tabs.mod hm fun k e => not_FP (h.tabsl k e) (by rintro (h | h | h) <;> cases h)
 tabsl k e := by rw [hl k (h.tabs.vblk_lt e)]; exact h.tabsl k e
 spots := h.spots.mod hm fun k e => not_FP (h.spotsl k e) (by rintro (h | h | h) <;> cases h)
 spotsl k e := by rw [hl k (h.spots.vblk_lt e)]; exact h.spotsl k e
 tab i hi := (h.tab i hi).frame hm (fun k t e et => not_FP e fun h => tag_roll_tab h et) hl
theorem compsM_addM {ms : List Nat} {m i : Nat} (hi : i < ms.length) : compsM (addM ms m) i = compsM ms i := by
 have e : (addM ms m)[i]? = ms[i]? := by
  unfold addM
  split
  ·rfl
  ·rw [List.getElem?_append_left hi]
 unfold compsM
 rw [e]
theorem StoreP.setAtlas {o o' : Lab} {w w' : World} {b : Nat} {p : Ptrs} {S : SM} (h : StoreP o w b p S) {m : Nat} (hlen : S.masks.length < 90000) (hl : LabEq w o o') (hm : Mod (FP o atlasTag) w w') (hA : AtlasAt o' w' p.bA S.cs.length (addM S.masks m)) :
  StoreP o' w' b p { S with masks := addM S.masks m } where
 lab := by rw [hl b (lt_of_blk h.here)]; exact h.lab
 good := h.good
 tle := by
  have := h.tle
  show S.tabs.length ≤ (addM S.masks m).length
  unfold addM; split
  ·exact this
  ·simp; omega
 mle := by
  show (addM S.masks m).length ≤ 90000
  unfold addM; split
  ·omega
  ·simp; omega
 sle := h.sle
 here := hm.get h.here (not_FP h.lab (by rintro (h | h | h | ⟨i, h⟩) <;> cases h))
 roll := h.roll.frame hm (fun k t e et => not_FP e fun h => tag_roll_atlas et h) hl
 atlas := hA
 sch := h.sch.mod hm fun k f e => not_FP (h.schl k f e).1 (by rintro (h | h | h | ⟨i, h⟩) <;> cases h)
 schl k f e := ⟨by rw [hl k (h.schl k f e).2]; exact (h.schl k f e).1, Nat.lt_of_lt_of_le (h.schl k f e).2 hm.size⟩
 tabs := h.tabs.mod hm fun k e => not_FP (h.tabsl k e) (by rintro (h | h | h | ⟨i, h⟩) <;> cases h)
 tabsl k e := by rw [hl k (h.tabs.vblk_lt e)]; exact h.tabsl k e
 spots := h.spots.mod hm fun k e => not_FP (h.spotsl k e) (by rintro (h | h | h | ⟨i, h⟩) <;> cases h)
 spotsl k e := by rw [hl k (h.spots.vblk_lt e)]; exact h.spotsl k e
 tab i hi := by
  have hi' : i < S.masks.length := Nat.lt_of_lt_of_le hi h.tle
  have := (h.tab i hi).frame hm (fun k t e et => not_FP e fun h => tag_atlas_tab h et) hl
  show TabAt o' w' (p.pt i) i (compsM (addM S.masks m) i) _ _ _
  rw [compsM_addM hi']
  exact this
theorem idx_addM_lt (ms : List Nat) (m : Nat) : (addM ms m).idxOf m < (addM ms m).length := List.idxOf_lt_length_of_mem (addM_mem ms m)
theorem idx_addM (ms : List Nat) (m : Nat) : (addM ms m)[(addM ms m).idxOf m]? = some m := by
 rw [List.getElem?_eq_getElem (idx_addM_lt ms m), List.getElem_idxOf (idx_addM_lt ms m)]
def laidS (S : SM) (m : Nat) : SM := layS { S with masks := addM S.masks m } ((addM S.masks m).length - S.tabs.length)
theorem laidS_len {S : SM} (h : S.tabs.length ≤ S.masks.length) (m : Nat) : (laidS S m).tabs.length = (addM S.masks m).length := by
 have : S.masks.length ≤ (addM S.masks m).length := by unfold addM; split <;> simp
 simp [laidS, layS]; omega
def rollS (S : SM) (gens : List (Int × Bool)) (free : List Nat) : SM := { S with gens := gens, free := free }
def spawnS (S : SM) (m i : Nat) (g : Int) (L : List Part) (h : S.tabs.length ≤ S.masks.length) (gens : List (Int × Bool)) (free : List Nat) : SM :=
 enterS (laidS (rollS S gens free) m) ((addM S.masks m).idxOf m) i g L (by
  have := laidS_len (S := rollS S gens free) h m
  rw [this]; exact idx_addM_lt _ _)
def Bnd (S : SM) : Prop := ∀ n T, S.tabs[n]? = some T → T.rows.length ≤ 999000 ∧ ∀ c ∈ compsM S.masks n, (T.col c).length ≤ 999000
theorem Bnd.laid {S : SM} (h : Bnd S) (ht : S.tabs.length ≤ S.masks.length) (m : Nat) : Bnd (laidS S m) := by
 intro n T hT
 have hT : (S.tabs ++ List.replicate ((addM S.masks m).length - S.tabs.length) TabM.empty)[n]? = some T := hT
 rcases Nat.lt_or_ge n S.tabs.length with hn | hn
 ·rw [List.getElem?_append_left hn] at hT
  obtain ⟨h1, h2⟩ := h n T hT
  refine ⟨h1, fun c hc => h2 c ?_⟩
  rw [← compsM_addM (m := m) (by omega)]; exact hc
 ·rw [List.getElem?_append_right hn] at hT
  obtain ⟨h1, h2⟩ := List.getElem?_eq_some_iff.1 hT
  rw [List.getElem_replicate] at h2
  subst h2
  exact ⟨by decide, fun c _ => by show ([] : List Part).length ≤ _; decide⟩
theorem sSpawn_spec {o : Lab} {w : World} (hD : DeAt w) {b : Nat} {p : Ptrs} {S : SM} (h : StoreP o w b p S) (hDo : o 20 = none) {K : Nat} (hK : K + 1 = S.free.length) {i : Nat} (hi : S.free[K]'(by omega) = i) (hlt : i < S.gens.length) (hg : 0 ≤ (S.gens[i]).1 ∧ (S.gens[i]).1 ≤ 1000000) (hisp : i < S.spots.length) (hml : S.masks.length < 80000) (hB : Bnd S)
  {L : List Part} {a : Option Addr} {c : Nat} (hs : SlIs w a L.length 6 (L.flatMap Part.cells)) (hLb : ∀ k f, a = some ⟨k, f, none⟩ → o k = none) (hn16 : L.length ≤ 64) (hf : ∀ q ∈ L, FitsP S.cs q) (hnt : NoTwice L) :
  Meets Tryz.prog 73 #[ptrV b, .slice a L.length c] w fun v w' => v = .tuple #[entV i ((S.gens[i]).1 + 1), .nilIface] ∧ ∃ L' : List Part, L'.Perm L ∧ L'.Pairwise (fun x y => x.comp ≤ y.comp) ∧
   Turned o w b (spawnS S (maskP L) i ((S.gens[i]).1 + 1) L' h.tle (S.gens.set i ((S.gens[i]).1 + 1, true)) (S.free.take K)) w' := by
 have hg16 := h.good.1
 have hmlt := maskP_lt S.cs hg16 L hf
 have hp16 : 2 ^ S.cs.length ≤ 2 ^ 16 := Nat.pow_le_pow_right (by omega) hg16
 refine f73_ok ?_
 unfold f73
 refine knew_of fun w2 hm2 hs2 hb2 => ?_
 have hP2 := h.cut hm2
 have hcutn : ∀ k, w.heap.size ≤ k → cutL o w.heap.size k = none := fun k hk => cutL_none hk
 have hDo0 : cutL o w.heap.size 20 = none := by
  unfold cutL; split
  ·exact hDo
  ·rfl
 rw [ptrV]
 rw [keq_ptr_nil ptSto]
 refine kB_at ?_
 refine kIf_F rfl ?_
 unfold f73_0
 refine kcall_of (sGathered_spec hP2 (hs.same hm2) (by omega) hf hnt) ?_
 rintro v w12 ⟨sv, L', rfl, hL1, hL2, hL3, h12, hf12⟩
 have m12 := hm2.trans h12
 have hP12 := hP2.same h12
 have hb12 := h12.get hb2 (fun h => h)
 refine kext_at rfl ?_
 refine kext_at rfl ?_
 refine kext_at rfl ?_
 rw [keq_nil_nil' ifErr]
 refine kB_at ?_
 refine kIf_F rfl ?_
 unfold f73_1
 have hh12 := hP12.here
 rw [ptrV] at hh12
 refine kN_at ?_
 refine kfld_of ?_
 refine kld_at hh12 rfl ?_
 refine kcall_of (rTake_spec hP12.roll hK hi hlt hg) ?_
 rintro v w24 ⟨rfl, hR24, hm24⟩
 have hP24 := hP12.setRoll (LabEq.refl _ _) hm24 hR24
 have hb24 := hm24.get hb12 (fun e => by have := e.cut.2; omega)
 have hsz12 : w.heap.size + 1 ≤ w12.heap.size := by have := h12.size; omega
 refine kext_at rfl ?_
 refine kext_at rfl ?_
 refine knew_of fun w28 h28 hs28 hb28 => ?_
 refine kst_of (vs := [.int .i64 i, .int .i64 ((S.gens[i]).1 + 1)]) hb28 rfl rfl rfl (by simp) (by simp) fun w29 h29 hs29 hb29 => ?_
 have hb29 : blk w29 w24.heap.size = some (.cells #[.int .i64 i, .int .i64 ((S.gens[i]).1 + 1)] 176) := hb29
 have m29 : Same w24 w29 := h28.trans' (h29.mono fun k _ e => .inr (by omega))
 rw [keq_nil_nil' ifErr]
 refine kB_at ?_
 refine kIf_F rfl ?_
 unfold f73_2
 have hP29 := hP24.same m29
 have hh29 := hP29.here
 rw [ptrV] at hh29
 have hc29 : cutL o w.heap.size w24.heap.size = none := hcutn _ (by have := hm24.size; omega)
 refine kN_at ?_
 refine kfld_of ?_
 refine kld_at hh29 rfl ?_
 refine kcall_of (at_spec hP29.atlas (maskP L) hmlt (by show S.masks.length < 100000; omega)) ?_
 rintro v w40 ⟨rfl, o3, hl3, hA3, hm40⟩
 have hP40 := hP29.setAtlas (m := maskP L) (by show S.masks.length < 90000; omega) hl3 hm40 hA3
 have hb40 := hm40.get (m29.get hb24 (fun h => h)) (fun e => by have := e.cut.2; omega)
 have he40 := hm40.get hb29 (fun e => by obtain ⟨t, e1, _⟩ := e; rw [hc29] at e1; cases e1)
 refine kext_at rfl ?_
 refine kext_at rfl ?_
 rw [keq_nil_nil' ifErr]
 refine kB_at ?_
 refine kIf_F rfl ?_
 unfold f73_3
 have hsz24 := hm24.size
 have hsz29 := m29.size
 have hsz40 := hm40.size
 have hP40c := hP40.frame (Mod.refl (fun _ => False) _) (fun _ _ _ h => h) (LabEq.cut w40 o3)
 have hD40 : DeAt w40 := by
  have d12 := hD.same m12
  have d24 := d12.mod hm24 fun ⟨t, e1, _⟩ => by rw [hDo0] at e1; cases e1
  exact (d24.same m29).mod hm40 fun ⟨t, e1, _⟩ => by rw [hDo0] at e1; cases e1
 have hDlt := hD.lt
 have hDo3 : cutL o3 w40.heap.size 20 = none := by
  unfold cutL
  rw [if_pos (by have := hm2.size; omega), hl3 _ (by have := hm2.size; omega)]
  exact hDo0
 refine kcall_of (sLay_spec hD40 hP40c hDo3) ?_
 rintro v w51 ⟨rfl, o4, p4, hl4, hP51, hm51, hc51⟩
 rw [keq_nil_nil' ifErr]
 refine kB_at ?_
 refine kIf_F rfl ?_
 generalize hn : (addM S.masks (maskP L)).idxOf (maskP L) = n at *
 have hnl : n < (laidS (rollS S (S.gens.set i ((S.gens[i]).1 + 1, true)) (S.free.take K)) (maskP L)).tabs.length := by
  have e := laidS_len (S := rollS S (S.gens.set i ((S.gens[i]).1 + 1, true)) (S.free.take K)) h.tle (maskP L)
  rw [e, ← hn]; exact idx_addM_lt _ _
 have hP51 : StoreP o4 w51 b p4 (laidS (rollS S (S.gens.set i ((S.gens[i]).1 + 1, true)) (S.free.take K)) (maskP L)) := hP51
 have hsz51 := hm51.size
 have hsz2 := hm2.size
 have hunl : ∀ k, w.heap.size ≤ k → k < w29.heap.size → cutL o w.heap.size k = none ∧ cutL o3 w40.heap.size k = none ∧ o4 k = none := fun k h1 h2 => by
  have e1 := hcutn k h1
  have e2 : cutL o3 w40.heap.size k = none := by
   unfold cutL
   rw [if_pos (by omega), hl3 k h2]
   exact e1
  exact ⟨e1, e2, by rw [hl4 k (by omega)]; exact e2⟩
 have he51 := hm51.get he40 (fun ⟨t, e1, _⟩ => by rw [(hunl _ (by omega) (by omega)).2.1] at e1; cases e1)
 have hr51 := hm51.get hb40 (fun ⟨t, e1, _⟩ => by rw [(hunl _ (by omega) (by omega)).2.1] at e1; cases e1)
 have hsv51 : Own w51 sv 6 (L'.flatMap Part.cells) := by
  have hvl : ∀ k, vblk sv k → k < w12.heap.size := fun k hk => hL3.vblk_lt hk
  have g1 := hL3.mod hm24 fun k hk ⟨t, e1, _⟩ => by rw [hcutn k (by have := hf12 k hk; omega)] at e1; cases e1
  have g2 := (g1.same m29).mod hm40 fun k hk ⟨t, e1, _⟩ => by rw [hcutn k (by have := hf12 k hk; omega)] at e1; cases e1
  exact g2.mod hm51 fun k hk ⟨t, e1, _⟩ => by rw [(hunl k (by have := hf12 k hk; omega) (by have := hvl k hk; omega)).2.1] at e1; cases e1
 have hvl : ∀ k, vblk sv k → k < w12.heap.size := fun k hk => hL3.vblk_lt hk
 obtain ⟨sa, sn, sc, rfl, hsl, _⟩ := hsv51.is
 have hsn : sn = L'.length := by
  have := hsl.1
  rw [flat_len Part.cells 6 (fun _ => rfl)] at this
  omega
 subst hsn
 have hLl : L'.length = L.length := hL1.length_eq
 unfold f73_4
 refine kldN_at he51 rfl (by omega) ?_
 refine kG_of rfl ?_
 refine kldN_at he51 rfl (by omega) ?_
 refine kG_of rfl ?_
 refine kcall_of (sEnter_spec (hP51.same (Mod.refl (fun _ => False) _).drew) hnl (show i < S.spots.length from hisp) ((S.gens[i]).1 + 1) (hsl.same (Mod.refl (fun _ => False) _).drew) (fun k f e => (hunl k (by have := hf12 k ⟨f, L'.length, sc, by rw [e]⟩; omega) (by have := hvl k ⟨f, L'.length, sc, by rw [e]⟩; omega)).2.2) (by omega) (fun q hq => hf q (hL1.mem_iff.1 hq)) ?_ ?_ ?_) ?_
 ·intro q hq
  have hq := hL1.mem_iff.1 hq
  obtain ⟨d, e1, e2, _⟩ := hf q hq
  refine ⟨d, e1, ?_⟩
  show d ∈ compsM (addM S.masks (maskP L)) n
  unfold compsM
  rw [← hn, idx_addM]
  exact listF_mem.2 ⟨by omega, (maskP_bit S.cs hg16 L hf d).2 ⟨q, hq, e1⟩⟩
 ·intro d hd
  have := ((Bnd.laid (S := rollS S (S.gens.set i ((S.gens[i]).1 + 1, true)) (S.free.take K)) hB h.tle (maskP L)) n _ (List.getElem?_eq_getElem hnl)).2 d hd
  omega
 ·have := ((Bnd.laid (S := rollS S (S.gens.set i ((S.gens[i]).1 + 1, true)) (S.free.take K)) hB h.tle (maskP L)) n _ (List.getElem?_eq_getElem hnl)).1
  omega
 rintro v w60 ⟨rfl, h60⟩
 obtain ⟨o5, p5, hl5, hP5, hm5, hc5⟩ := id h60
 have ms : Same w51 w51.drew := (Mod.refl (fun _ => False) _).drew
 have he60 := hm5.get (ms.get he51 (fun h => h)) (fun ⟨t, e1, _⟩ => by rw [(hunl _ (by omega) (by omega)).2.2] at e1; cases e1)
 have hr60 := hm5.get (ms.get hr51 (fun h => h)) (fun ⟨t, e1, _⟩ => by rw [(hunl _ (by omega) (by omega)).2.2] at e1; cases e1)
 refine kG_of (kldN_at he60 rfl (by omega) ⟨rfl, rfl⟩) ?_
 refine kst_of (vs := [.int .i64 i, .int .i64 ((S.gens[i]).1 + 1)]) hr60 rfl rfl rfl (by simp) (by simp) fun w61 h61 hs61 hb61 => ?_
 have hb61 : blk w61 w.heap.size = some (.cells #[.int .i64 i, .int .i64 ((S.gens[i]).1 + 1)] 176) := hb61
 refine kldN_at hb61 rfl (by omega) ?_
 refine ⟨rfl, L', hL1, hL2, ?_⟩
 refine Turned.wrap hm2 ?_ (h61.mono fun k _ e => by subst e; omega)
 refine Turned.seq (o1 := cutL o w.heap.size) (w1 := w24) (LabEq.refl _ _) ((Mod.of_same h12).trans (hm24.mono fun k _ hk => FP.mono (fun _ _ => trivial) hk)) m29 ?_
 refine Turned.seq (o1 := cutL o3 w40.heap.size) (w1 := w40) (hl3.trans (LabEq.cut _ _) hm40.size) (hm40.mono fun k _ hk => FP.mono (fun _ _ => trivial) hk) (Mod.refl _ _) ?_
 refine Turned.seq (o1 := o4) (w1 := w51) hl4 (hm51.mono fun k _ hk => FP.mono (fun _ _ => trivial) hk) ms ?_
 have h60 : Turned o4 w51.drew b _ w60 := h60
 unfold spawnS
 simp only [hn]
 exact h60
end
section
attribute [local irreducible] kO kB kStr kInt kN kG kIf kfld kld kldN kst knew kmap kbld kbldS kext kcnv klenStr klen kcap kprt kprtN kbool kint kstr keq kun ksl kix kiv kta kmk kmm ksem ksemU kextf kcallV kcallM kcall kL
def partAt (T : TabM) (r c : Nat) : Part := ((T.col c)[r]?).getD ⟨0, 0, 0, 0, 0, 0⟩
theorem listF_sorted (m : Nat) : (listF m).Pairwise (fun a b => a < b) := List.Pairwise.filter _ List.pairwise_lt_range
theorem compsM_sorted (ms : List Nat) (n : Nat) : (compsM ms n).Pairwise (fun a b => a < b) := by
 unfold compsM
 split
 ·exact listF_sorted _
 ·exact .nil
theorem compsM_nodup (ms : List Nat) (n : Nat) : (compsM ms n).Nodup := (compsM_sorted ms n).imp (fun h => by omega)
end
section
attribute [local irreducible] kO kB kStr kInt kN kG kIf kfld kld kldN kst knew kmap kbld kbldS kext kcnv klenStr klen kcap kprt kprtN kbool kint kstr keq kun ksl kix kiv kta kmk kmm ksem ksemU kextf kcallV kcallM kcall kL
theorem kcallC_of {P : Program} {f : FuncId} {args : List Value} {caps : Array Value} {w : World} {K Q : Value → World → Prop} (h : Meets P f (args.toArray ++ caps) w Q) (hk : ∀ v w', Q v w' → K v w') : kcallV P (.func (.func f) #[] caps) args w K := by
 have : Meets P f (#[] ++ args.toArray ++ caps) w K := by simpa using h.mono hk
 unfold kcallV
 exact this
def Moved (L M : List Part) (k t : Nat) : Prop := M.length = L.length ∧ ∀ x, M[x]? = if x < k ∨ k + t ≤ x then L[x]? else L[x + 1]?
theorem Moved.zero (L : List Part) (k : Nat) : Moved L L k 0 := ⟨rfl, fun x => by rw [if_pos (by omega)]⟩
theorem Moved.step {L M : List Part} {k t : Nat} (h : Moved L M k t) (hk : k + t + 1 < L.length) : Moved L (M.set (k + t) L[k + t + 1]) k (t + 1) := by
 obtain ⟨h1, h2⟩ := h
 refine ⟨by simpa using h1, fun x => ?_⟩
 rw [List.getElem?_set]
 by_cases hx : k + t = x
 ·subst hx
  rw [if_pos rfl, if_pos (by omega), if_neg (by omega), List.getElem?_eq_getElem hk]
 ·rw [if_neg hx, h2 x]
  by_cases h3 : x < k ∨ k + t ≤ x
  ·rw [if_pos h3, if_pos (by omega)]
  ·rw [if_neg h3, if_neg (by omega)]
theorem Moved.done {L M : List Part} {k t : Nat} (h : Moved L M k t) (hk : k + t + 1 = L.length) : M.take (L.length - 1) = L.eraseIdx k := by
 obtain ⟨h1, h2⟩ := h
 apply List.ext_getElem?
 intro x
 rw [List.getElem?_take, List.getElem?_eraseIdx, h2 x]
 by_cases hx : x < L.length - 1
 ·rw [if_pos hx]
  by_cases h3 : x < k
  ·rw [if_pos (.inl h3), if_pos h3]
  ·rw [if_neg (by omega), if_neg h3]
 ·rw [if_neg hx]
  by_cases h3 : x < k
  ·omega
  ·rw [if_neg h3]
   symm
   simp; omega
end
section
attribute [local irreducible] kO kB kStr kInt kN kG kIf kfld kld kldN kst knew kmap kbld kbldS kext kcnv klenStr klen kcap kprt kprtN kbool kint kstr keq kun ksl kix kiv kta kmk kmm ksem ksemU kextf kcallV kcallM kcall kL
end
section
structure WFe (S : SM) (ex : Nat → Prop) : Prop where
 gs : S.gens.length = S.spots.length
 live : ∀ i g, S.gens[i]? = some (g, true) → ¬ ex i → ∃ n r T, S.spots[i]? = some (n, r) ∧ S.tabs[n]? = some T ∧ T.rows[r]? = some ((i : Int), g)
 rows : ∀ n T r e, S.tabs[n]? = some T → T.rows[r]? = some e → ∃ i : Nat, e.1 = (i : Int) ∧ ¬ ex i ∧ S.gens[i]? = some (e.2, true) ∧ S.spots[i]? = some (n, r)
 cols : ∀ n T c, S.tabs[n]? = some T → c ∈ compsM S.masks n → (T.col c).length = T.rows.length
def WF (S : SM) : Prop := WFe S fun _ => False
def partsOf (S : SM) (i : Nat) : List Part := match S.spots[i]? with
 | some (n, r) => match S.tabs[n]? with
  | some T => (compsM S.masks n).map (partAt T r)
  | none => []
 | none => []
theorem partsOf_eq {S : SM} {i n r : Nat} {T : TabM} (h : S.spots[i]? = some (n, r)) (hT : S.tabs[n]? = some T) : partsOf S i = (compsM S.masks n).map (partAt T r) := by
 unfold partsOf; simp [h, hT]
theorem WFe.rows_le {S : SM} {ex : Nat → Prop} (h : WFe S ex) {n : Nat} {T : TabM} (hT : S.tabs[n]? = some T) : T.rows.length ≤ S.spots.length := by
 have hnd : ((List.range T.rows.length).map fun r => ((T.rows[r]?).getD (0, 0)).1.toNat).Nodup := by
  unfold List.Nodup
  rw [List.pairwise_map]
  refine List.nodup_range.imp_of_mem fun {a b} ha hb hab e => ?_
  have ha : a < T.rows.length := by simpa using ha
  have hb : b < T.rows.length := by simpa using hb
  obtain ⟨i, e1, _, _, s1⟩ := h.rows n T a _ hT (List.getElem?_eq_getElem ha)
  obtain ⟨j, e2, _, _, s2⟩ := h.rows n T b _ hT (List.getElem?_eq_getElem hb)
  simp only [List.getElem?_eq_getElem ha, List.getElem?_eq_getElem hb, Option.getD_some, e1, e2, Int.toNat_natCast] at e
  subst e
  rw [s1] at s2
  cases s2
  exact hab rfl
 have := List.Nodup.length_le_of_subset hnd (l₂ := List.range S.spots.length) (fun x hx => by
  obtain ⟨r, hr, rfl⟩ := List.mem_map.1 hx
  have hr : r < T.rows.length := by simpa using hr
  obtain ⟨i, e1, _, _, s1⟩ := h.rows n T r _ hT (List.getElem?_eq_getElem hr)
  simp only [List.getElem?_eq_getElem hr, Option.getD_some, e1, Int.toNat_natCast]
  simpa using (List.getElem?_eq_some_iff.1 s1).1)
 simpa using this
end
section
theorem filt_parts (z : Part) : ∀ (comps : List Nat) (L : List Part), L.map (·.comp) = comps.map (fun c : Nat => (c : Int)) → comps.Nodup →
  (∀ c ∈ comps, (L.filter fun q => decide (q.comp = (c : Int))).length = 1) ∧ comps.map (fun c : Nat => ((L.filter fun q => decide (q.comp = (c : Int)))[0]?).getD z) = L
 | [], L, h, _ => by
  cases L with
  | nil => simp
  | cons q L => simp at h
 | c :: cs, [], h, _ => by simp at h
 | c :: cs, q :: L, h, hn => by
  rw [List.map_cons, List.map_cons, List.cons.injEq] at h
  rw [List.nodup_cons] at hn
  obtain ⟨i1, i2⟩ := filt_parts z cs L h.2 hn.2
  have hq : decide (q.comp = (c : Int)) = true := decide_eq_true h.1
  have hd : ∀ d ∈ cs, decide (q.comp = (d : Int)) = false := fun d hd => decide_eq_false fun e => by
   have : d = c := by have := h.1; omega
   subst this; exact hn.1 hd
  have hL : L.filter (fun q => decide (q.comp = (c : Int))) = [] := by
   rw [List.filter_eq_nil_iff]
   intro x hx
   have hm : x.comp ∈ cs.map (fun c : Nat => (c : Int)) := h.2 ▸ List.mem_map.2 ⟨x, hx, rfl⟩
   obtain ⟨d, hdm, e⟩ := List.mem_map.1 hm
   have : ¬ x.comp = (c : Int) := fun e2 => by
    have : d = c := by omega
    subst this; exact hn.1 hdm
   simpa using this
  refine ⟨fun d hdm => ?_, ?_⟩
  ·rcases List.mem_cons.1 hdm with rfl | hdm
   ·rw [List.filter_cons_of_pos (by simpa using hq), hL]; rfl
   ·rw [List.filter_cons_of_neg (by simpa using hd d hdm)]; exact i1 d hdm
  ·rw [List.map_cons, List.filter_cons_of_pos (by simpa using hq)]
   congr 1
   refine Eq.trans (List.map_congr_left fun d hdm => ?_) i2
   rw [List.filter_cons_of_neg (by simpa using hd d hdm)]
theorem enterS_tabs {S : SM} {n i : Nat} {g : Int} {L : List Part} (hn : n < S.tabs.length) (k : Nat) : (enterS S n i g L hn).tabs[k]? = if k = n then some ⟨S.tabs[n].rows ++ [((i : Int), g)], (pushC S.tabs[n] L).col⟩ else S.tabs[k]? := by
 unfold enterS
 rw [List.getElem?_set]
 by_cases h : n = k
 ·subst h; rw [if_pos rfl, if_pos hn, if_pos rfl]
 ·rw [if_neg h, if_neg (fun e => h e.symm)]
theorem enterS_spots {S : SM} {n i : Nat} {g : Int} {L : List Part} (hn : n < S.tabs.length) (hi : i < S.spots.length) (k : Nat) : (enterS S n i g L hn).spots[k]? = if k = i then some (n, S.tabs[n].rows.length) else S.spots[k]? := by
 unfold enterS
 rw [List.getElem?_set]
 by_cases h : i = k
 ·subst h; rw [if_pos rfl, if_pos hi, if_pos rfl]
 ·rw [if_neg h, if_neg (fun e => h e.symm)]
theorem WFe.enter {S : SM} {i : Nat} (h : WFe S (· = i)) {g : Int} (hg : S.gens[i]? = some (g, true)) {n : Nat} (hn : n < S.tabs.length) {L : List Part} (hLc : L.map (·.comp) = (compsM S.masks n).map (fun c : Nat => (c : Int))) :
  WF (enterS S n i g L hn) ∧ partsOf (enterS S n i g L hn) i = L ∧ ∀ j gj, j ≠ i → S.gens[j]? = some (gj, true) → partsOf (enterS S n i g L hn) j = partsOf S j := by
 have hi : i < S.spots.length := by rw [← h.gs]; exact (List.getElem?_eq_some_iff.1 hg).1
 have hTn : S.tabs[n]? = some S.tabs[n] := List.getElem?_eq_getElem hn
 have hT' := enterS_tabs (i := i) (g := g) (L := L) hn
 have hS' := enterS_spots (g := g) (L := L) hn hi
 obtain ⟨f1, f2⟩ := filt_parts ⟨0, 0, 0, 0, 0, 0⟩ _ L hLc (compsM_nodup S.masks n)
 have key : ∀ j gj, j ≠ i → S.gens[j]? = some (gj, true) → ∃ n' r' T', (enterS S n i g L hn).spots[j]? = some (n', r') ∧ (enterS S n i g L hn).tabs[n']? = some T' ∧ T'.rows[r']? = some ((j : Int), gj) ∧
   ∃ T0, S.spots[j]? = some (n', r') ∧ S.tabs[n']? = some T0 ∧ ∀ c ∈ compsM S.masks n', (T'.col c)[r']? = (T0.col c)[r']? := by
  intro j gj hj hgj
  obtain ⟨n', r', T', h1, h2, h3⟩ := h.live j gj hgj hj
  by_cases hnn : n' = n
  ·subst hnn
   rw [hTn] at h2; cases h2
   have hr'l := (List.getElem?_eq_some_iff.1 h3).1
   refine ⟨n', r', _, by rw [hS', if_neg hj]; exact h1, by rw [hT', if_pos rfl], ?_, _, h1, hTn, fun c hc => ?_⟩
   ·show (S.tabs[n'].rows ++ _)[r']? = _
    rw [List.getElem?_append_left hr'l]; exact h3
   ·show (S.tabs[n'].col c ++ _)[r']? = _
    rw [List.getElem?_append_left (by rw [h.cols n' _ c hTn hc]; exact hr'l)]
  ·exact ⟨n', r', T', by rw [hS', if_neg hj]; exact h1, by rw [hT', if_neg hnn]; exact h2, h3, T', h1, h2, fun c _ => rfl⟩
 refine ⟨⟨?_, ?_, ?_, ?_⟩, ?_, ?_⟩
 ·show S.gens.length = (S.spots.set i _).length
  rw [List.length_set]; exact h.gs
 ·intro j gj hgj _
  by_cases hj : j = i
  ·subst hj
   have : S.gens[j]? = some (gj, true) := hgj
   rw [hg] at this; cases this
   refine ⟨n, S.tabs[n].rows.length, _, by rw [hS', if_pos rfl], by rw [hT', if_pos rfl], ?_⟩
   show (S.tabs[n].rows ++ _)[_]? = _
   rw [List.getElem?_append_right (by omega)]; simp
  ·obtain ⟨n', r', T', k1, k2, k3, _⟩ := key j gj hj hgj
   exact ⟨n', r', T', k1, k2, k3⟩
 ·intro n' T' r' e hTq hre
  rw [hT'] at hTq
  by_cases hnn : n' = n
  ·subst hnn
   rw [if_pos rfl] at hTq
   cases hTq
   have hre : (S.tabs[n'].rows ++ [((i : Int), g)])[r']? = some e := hre
   rcases Nat.lt_or_ge r' S.tabs[n'].rows.length with hlt | hge
   ·rw [List.getElem?_append_left hlt] at hre
    obtain ⟨j, e1, e2, e3, e4⟩ := h.rows n' _ _ _ hTn hre
    exact ⟨j, e1, fun h => h, e3, by rw [hS', if_neg e2]; exact e4⟩
   ·rw [List.getElem?_append_right hge] at hre
    have h0 : r' - S.tabs[n'].rows.length = 0 := by
     have := (List.getElem?_eq_some_iff.1 hre).1
     simp at this; omega
    rw [h0] at hre
    simp at hre
    subst hre
    exact ⟨i, rfl, fun h => h, hg, by rw [hS', if_pos rfl, show r' = S.tabs[n'].rows.length by omega]⟩
  ·rw [if_neg hnn] at hTq
   obtain ⟨j, e1, e2, e3, e4⟩ := h.rows n' _ _ _ hTq hre
   exact ⟨j, e1, fun h => h, e3, by rw [hS', if_neg e2]; exact e4⟩
 ·intro n' T' c hTq hc
  rw [hT'] at hTq
  by_cases hnn : n' = n
  ·subst hnn
   rw [if_pos rfl] at hTq
   cases hTq
   have hcl := h.cols n' _ c hTn hc
   have := f1 c hc
   show (S.tabs[n'].col c ++ L.filter _).length = (S.tabs[n'].rows ++ _).length
   rw [List.length_append, List.length_append, hcl, this]; rfl
  ·rw [if_neg hnn] at hTq
   exact h.cols n' _ c hTq hc
 ·have k1 := hS' i
  rw [if_pos rfl] at k1
  have k2 := hT' n
  rw [if_pos rfl] at k2
  rw [partsOf_eq k1 k2]
  refine Eq.trans (List.map_congr_left fun c hc => ?_) f2
  have hcl := h.cols n _ c hTn hc
  show ((S.tabs[n].col c ++ L.filter _)[S.tabs[n].rows.length]?).getD _ = _
  rw [List.getElem?_append_right (by omega), hcl, Nat.sub_self]
 ·intro j gj hj hgj
  obtain ⟨n', r', T', k1, k2, k3, T0, k4, k5, k6⟩ := key j gj hj hgj
  rw [partsOf_eq k1 k2, partsOf_eq k4 k5]
  refine List.map_congr_left fun c hc => ?_
  unfold partAt
  rw [k6 c hc]
theorem WFe.masks {S : SM} {ex : Nat → Prop} (h : WFe S ex) (ht : S.tabs.length ≤ S.masks.length) (m : Nat) : WFe { S with masks := addM S.masks m } ex ∧ ∀ j gj, ¬ ex j → S.gens[j]? = some (gj, true) → partsOf { S with masks := addM S.masks m } j = partsOf S j := by
 refine ⟨⟨h.gs, h.live, h.rows, fun n T c hT hc => ?_⟩, fun j gj hj hgj => ?_⟩
 ·have hn : n < S.tabs.length := (List.getElem?_eq_some_iff.1 hT).1
  refine h.cols n T c hT ?_
  rw [← compsM_addM (m := m) (by omega)]; exact hc
 ·obtain ⟨n, r, T, h1, h2, h3⟩ := h.live j gj hgj hj
  have hn := (List.getElem?_eq_some_iff.1 h2).1
  rw [partsOf_eq (S := { S with masks := addM S.masks m }) h1 h2, partsOf_eq h1 h2]
  show (compsM (addM S.masks m) n).map _ = _
  rw [compsM_addM (by omega)]
theorem layS_tabs {S : SM} {k n : Nat} {T : TabM} (h : (layS S k).tabs[n]? = some T) : S.tabs[n]? = some T ∨ T = TabM.empty := by
 unfold layS at h
 rcases Nat.lt_or_ge n S.tabs.length with hn | hn
 ·rw [List.getElem?_append_left hn] at h; exact .inl h
 ·rw [List.getElem?_append_right hn] at h
  have := (List.getElem?_eq_some_iff.1 h)
  obtain ⟨h1, h2⟩ := this
  rw [List.getElem_replicate] at h2
  exact .inr h2.symm
theorem WFe.lay {S : SM} {ex : Nat → Prop} (h : WFe S ex) (k : Nat) : WFe (layS S k) ex ∧ ∀ j gj, ¬ ex j → S.gens[j]? = some (gj, true) → partsOf (layS S k) j = partsOf S j := by
 have hup : ∀ {n T}, S.tabs[n]? = some T → (layS S k).tabs[n]? = some T := fun {n T} e => by
  unfold layS
  rw [List.getElem?_append_left (List.getElem?_eq_some_iff.1 e).1]; exact e
 refine ⟨⟨h.gs, fun i g hg hx => ?_, fun n T r e hT hr => ?_, fun n T c hT hc => ?_⟩, fun j gj hj hgj => ?_⟩
 ·obtain ⟨n, r, T, h1, h2, h3⟩ := h.live i g hg hx
  exact ⟨n, r, T, h1, hup h2, h3⟩
 ·rcases layS_tabs hT with hT | rfl
  ·exact h.rows n T r e hT hr
  ·cases hr
 ·rcases layS_tabs hT with hT | rfl
  ·exact h.cols n T c hT hc
  ·rfl
 ·obtain ⟨n, r, T, h1, h2, h3⟩ := h.live j gj hgj hj
  rw [partsOf_eq (S := layS S k) h1 (hup h2), partsOf_eq h1 h2]; rfl
theorem WFe.born {S : SM} (h : WF S) {i : Nat} {g0 g1 : Int} (hg : S.gens[i]? = some (g0, false)) (free : List Nat) : WFe (rollS S (S.gens.set i (g1, true)) free) (· = i) := by
 have hi := (List.getElem?_eq_some_iff.1 hg).1
 have hne : ∀ j, j ≠ i → (S.gens.set i (g1, true))[j]? = S.gens[j]? := fun j hj => by rw [List.getElem?_set_ne (fun e => hj e.symm)]
 refine ⟨by show (S.gens.set i _).length = _; rw [List.length_set]; exact h.gs, fun j g hgj hj => ?_, fun n T r e hT hr => ?_, h.cols⟩
 ·have hgj : (S.gens.set i (g1, true))[j]? = some (g, true) := hgj
  rw [hne j hj] at hgj
  exact h.live j g hgj (fun h => h)
 ·obtain ⟨j, e1, _, e3, e4⟩ := h.rows n T r e hT hr
  have hj : j ≠ i := fun e => by subst e; rw [hg] at e3; cases e3
  exact ⟨j, e1, hj, by show (S.gens.set i (g1, true))[j]? = _; rw [hne j hj]; exact e3, e4⟩
theorem comps_sorted {S : SM} (hcs : S.cs.length ≤ 16) {L L' : List Part} (hf : ∀ q ∈ L, FitsP S.cs q) (hnt : NoTwice L) (hp : L'.Perm L) (hs : L'.Pairwise (fun x y => x.comp ≤ y.comp)) : L'.map (·.comp) = (listF (maskP L)).map (fun c : Nat => (c : Int)) := by
 refine List.Perm.eq_of_pairwise (le := fun x y : Int => x ≤ y) (fun a b _ _ h1 h2 => by omega) ?_ ?_ ?_
 ·rw [List.pairwise_map]; exact hs
 ·rw [List.pairwise_map]; exact (listF_sorted _).imp (fun h => by omega)
 ·refine (hp.map _).trans ((List.perm_ext_iff_of_nodup hnt ?_).2 fun a => ?_)
  ·unfold List.Nodup
   rw [List.pairwise_map]
   exact (listF_nodup _).imp (fun h e => h (by omega))
  ·rw [List.mem_map, List.mem_map]
   constructor
   ·rintro ⟨q, hq, rfl⟩
    obtain ⟨d, e1, e2, _⟩ := hf q hq
    exact ⟨d, listF_mem.2 ⟨by omega, (maskP_bit S.cs hcs L hf d).2 ⟨q, hq, e1⟩⟩, e1.symm⟩
   ·rintro ⟨d, hd, rfl⟩
    obtain ⟨q, hq, e⟩ := (maskP_bit S.cs hcs L hf d).1 (listF_mem.1 hd).2
    exact ⟨q, hq, e⟩
end
section
def FreeOk (S : SM) : Prop := S.free.Nodup ∧ ∀ i, i ∈ S.free ↔ ∃ g, S.gens[i]? = some (g, false)
structure GS (S : SM) (t : Nat) : Prop where
 wf : WF S
 fr : FreeOk S
 gen : ∀ (i : Nat) (x : Int × Bool), S.gens[i]? = some x → 0 ≤ x.1 ∧ x.1 ≤ (t : Int)
 ml : S.masks.length ≤ t + 1
 g64 : S.gens.length ≤ 64
theorem addM_len (ms : List Nat) (m : Nat) : ms.length ≤ (addM ms m).length ∧ (addM ms m).length ≤ ms.length + 1 := by
 unfold addM; split <;> simp
theorem GS.bnd {S : SM} {t : Nat} (h : GS S t) : Bnd S := by
 intro n T hT
 have h1 := h.wf.rows_le hT
 have h2 := h.wf.gs
 have h3 := h.g64
 refine ⟨by omega, fun c hc => ?_⟩
 rw [h.wf.cols n T c hT hc]; omega
structure Born (S S' : SM) (L' : List Part) (i : Nat) (g : Int) : Prop where
 gens : S'.gens = S.gens.set i (g, true)
 cs : S'.cs = S.cs
 masks : S'.masks = addM S.masks (maskP L')
 tabs : S'.tabs.length = S'.masks.length
 free : S'.free = S.free.dropLast
 parts : partsOf S' i = L'
 others : ∀ j gj, j ≠ i → S.gens[j]? = some (gj, true) → partsOf S' j = partsOf S j
theorem maskP_perm {cs : List Comp} (hcs : cs.length ≤ 16) {L L' : List Part} (hp : L'.Perm L) (hf : ∀ q ∈ L, FitsP cs q) : maskP L' = maskP L := by
 have hf' : ∀ q ∈ L', FitsP cs q := fun q hq => hf q (hp.mem_iff.1 hq)
 apply Nat.eq_of_testBit_eq
 intro c
 rw [Bool.eq_iff_iff, maskP_bit cs hcs L' hf' c, maskP_bit cs hcs L hf c]
 exact ⟨fun ⟨q, h, e⟩ => ⟨q, hp.mem_iff.1 h, e⟩, fun ⟨q, h, e⟩ => ⟨q, hp.mem_iff.2 h, e⟩⟩
theorem GS.spawn {S : SM} {t : Nat} (h : GS S t) (ht : S.tabs.length ≤ S.masks.length) (hcs : S.cs.length ≤ 16) {K i : Nat} {g0 : Int} (hK : K + 1 = S.free.length) (hi : S.free[K]'(by omega) = i) (hg : S.gens[i]? = some (g0, false))
  {L L' : List Part} (hf : ∀ q ∈ L, FitsP S.cs q) (hnt : NoTwice L) (hp : L'.Perm L) (hs : L'.Pairwise (fun x y => x.comp ≤ y.comp)) :
  GS (spawnS S (maskP L) i (g0 + 1) L' ht (S.gens.set i (g0 + 1, true)) (S.free.take K)) (t + 1) ∧ Born S (spawnS S (maskP L) i (g0 + 1) L' ht (S.gens.set i (g0 + 1, true)) (S.free.take K)) L' i (g0 + 1) := by
 have hil := (List.getElem?_eq_some_iff.1 hg).1
 have w1 := WFe.born h.wf hg (g1 := g0 + 1) (S.free.take K)
 obtain ⟨w2, v2⟩ := w1.masks ht (maskP L)
 obtain ⟨w3, v3⟩ := w2.lay ((addM S.masks (maskP L)).length - S.tabs.length)
 have hn : (addM S.masks (maskP L)).idxOf (maskP L) < (laidS (rollS S (S.gens.set i (g0 + 1, true)) (S.free.take K)) (maskP L)).tabs.length := by
  have e := laidS_len (S := rollS S (S.gens.set i (g0 + 1, true)) (S.free.take K)) ht (maskP L)
  rw [e]; exact idx_addM_lt _ _
 have hgi : (laidS (rollS S (S.gens.set i (g0 + 1, true)) (S.free.take K)) (maskP L)).gens[i]? = some (g0 + 1, true) := by
  show (S.gens.set i (g0 + 1, true))[i]? = _
  rw [List.getElem?_set, if_pos rfl, if_pos hil]
 have hLc : L'.map (·.comp) = (compsM (laidS (rollS S (S.gens.set i (g0 + 1, true)) (S.free.take K)) (maskP L)).masks ((addM S.masks (maskP L)).idxOf (maskP L))).map (fun c : Nat => (c : Int)) := by
  show _ = (compsM (addM S.masks (maskP L)) _).map _
  unfold compsM
  rw [idx_addM]
  exact comps_sorted hcs hf hnt hp hs
 obtain ⟨w4, v4, v5⟩ := WFe.enter w3 hgi hn hLc
 have hlen : (spawnS S (maskP L) i (g0 + 1) L' ht (S.gens.set i (g0 + 1, true)) (S.free.take K)).tabs.length = (addM S.masks (maskP L)).length := by
  have e := laidS_len (S := rollS S (S.gens.set i (g0 + 1, true)) (S.free.take K)) ht (maskP L)
  show (List.set _ _ _).length = _
  rw [List.length_set]; exact e
 have hfl : S.free.take K = S.free.dropLast := by rw [List.dropLast_eq_take, show S.free.length - 1 = K by omega]
 have hsp : S.free = S.free.take K ++ [i] := by
  have := List.take_append_drop K S.free
  rw [List.drop_eq_getElem_cons (by omega), hi, List.drop_eq_nil_of_le (by omega)] at this
  exact this.symm
 refine ⟨⟨w4, ⟨?_, fun j => ?_⟩, fun j x hx => ?_, ?_, ?_⟩, ⟨rfl, rfl, ?_, hlen, hfl, v4, fun j gj hj hgj => ?_⟩⟩
 ·exact h.fr.1.sublist (List.take_sublist _ _)
 ·show j ∈ S.free.take K ↔ ∃ g, (S.gens.set i (g0 + 1, true))[j]? = some (g, false)
  have hnd := h.fr.1
  rw [hsp] at hnd
  have hin : i ∉ S.free.take K := fun hm => by
   have := (List.nodup_append.1 hnd).2.2 i hm i (by simp)
   exact this rfl
  by_cases hj : j = i
  ·subst hj
   rw [List.getElem?_set, if_pos rfl, if_pos hil]
   exact ⟨fun h => absurd h hin, fun ⟨g, e⟩ => by cases e⟩
  ·rw [List.getElem?_set_ne (fun e => hj e.symm), ← h.fr.2 j]
   constructor
   ·intro hm; exact List.mem_of_mem_take hm
   ·intro hm
    rw [hsp] at hm
    rcases List.mem_append.1 hm with hm | hm
    ·exact hm
    ·simp at hm; exact absurd hm hj
 ·have hx : (S.gens.set i (g0 + 1, true))[j]? = some x := hx
  by_cases hj : j = i
  ·subst hj
   rw [List.getElem?_set, if_pos rfl, if_pos hil] at hx
   cases hx
   have := h.gen j _ hg
   simp at this ⊢; omega
  ·rw [List.getElem?_set_ne (fun e => hj e.symm)] at hx
   have := h.gen j x hx
   push_cast; omega
 ·have := addM_len S.masks (maskP L)
  have h2 := h.ml
  show (addM S.masks (maskP L)).length ≤ _
  omega
 ·show (S.gens.set i _).length ≤ 64
  rw [List.length_set]; exact h.g64
 ·show addM S.masks (maskP L) = addM S.masks (maskP L')
  rw [maskP_perm hcs hp hf]
 ·have hgj' : (S.gens.set i (g0 + 1, true))[j]? = some (gj, true) := by rw [List.getElem?_set_ne (fun e => hj e.symm)]; exact hgj
  refine (v5 j gj hj hgj').trans ((v3 j gj hj hgj').trans ((v2 j gj hj hgj').trans rfl))
theorem spawn_at {o : Lab} {w : World} (hD : DeAt w) {b : Nat} {p : Ptrs} {S : SM} (h : StoreP o w b p S) (hDo : o 20 = none) {t : Nat} (hG : GS S t) (ht : t ≤ 10000) (hfree : S.free ≠ [])
  {L : List Part} {a : Option Addr} {c : Nat} (hs : SlIs w a L.length 6 (L.flatMap Part.cells)) (hLb : ∀ k f, a = some ⟨k, f, none⟩ → o k = none) (hn16 : L.length ≤ 64) (hf : ∀ q ∈ L, FitsP S.cs q) (hnt : NoTwice L) :
  Meets Tryz.prog 73 #[ptrV b, .slice a L.length c] w fun v w' => ∃ (i : Nat) (g0 : Int) (L' : List Part) (S' : SM), S.free.getLast? = some i ∧ S.gens[i]? = some (g0, false) ∧ v = .tuple #[entV i (g0 + 1), .nilIface] ∧ L'.Perm L ∧ L'.Pairwise (fun x y => x.comp ≤ y.comp) ∧
   GS S' (t + 1) ∧ Born S S' L' i (g0 + 1) ∧ Turned o w b S' w' := by
 have hlen : 0 < S.free.length := List.length_pos_iff.2 hfree
 obtain ⟨K, hK⟩ : ∃ K, K + 1 = S.free.length := ⟨S.free.length - 1, by omega⟩
 have hKl : K < S.free.length := by omega
 obtain ⟨g0, hg⟩ := (hG.fr.2 _).1 (List.getElem_mem hKl)
 obtain ⟨hlt, hge⟩ := List.getElem?_eq_some_iff.1 hg
 have hb := hG.gen _ _ hg
 have hml := hG.ml
 refine (sSpawn_spec hD h hDo hK (i := S.free[K]) rfl hlt (by rw [hge]; simp at hb ⊢; omega) (by rw [← hG.wf.gs]; exact hlt) (by omega) hG.bnd hs hLb hn16 hf hnt).mono ?_
 rintro v w' ⟨rfl, L', h1, h2, h3⟩
 have hg' : (S.gens[S.free[K]]).1 = g0 := by rw [hge]
 rw [hg'] at h3
 obtain ⟨k1, k2⟩ := hG.spawn h.tle h.good.1 hK rfl hg hf hnt h1 h2
 refine ⟨S.free[K], g0, L', _, ?_, hg, by rw [hg'], h1, h2, k1, k2, h3⟩
 rw [List.getLast?_eq_getElem?, show S.free.length - 1 = K by omega, List.getElem?_eq_getElem hKl]
end
section
structure Went (S S' : SM) (L' : List Part) (i : Nat) : Prop where
 gens : S'.gens = S.gens
 cs : S'.cs = S.cs
 masks : S'.masks = addM S.masks (maskP L')
 tabs : S'.tabs.length = S'.masks.length
 free : S'.free = S.free
 parts : partsOf S' i = L'
 others : ∀ j gj, j ≠ i → S.gens[j]? = some (gj, true) → partsOf S' j = partsOf S j
end
end Go.Proofs.YtenokhokboicnaaGreatDoor
