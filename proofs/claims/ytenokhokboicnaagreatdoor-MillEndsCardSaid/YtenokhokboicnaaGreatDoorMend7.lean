/-
Lemmas for the statements of this seat: no statement of the seat is proved in this part (7 of 7); the conditions stand in each theorem.
-/
import Derived.Test.YtenokhokboicnaaGreatDoorMend6
import Derived.Test.YtenokhokboicnaaGreatDoorProg
import Derived.Test.YtenokhokboicnaaGreatDoorChecked
set_option linter.unusedSimpArgs false
set_option linter.unusedVariables false
set_option maxRecDepth 100000
namespace Go.Proofs.YtenokhokboicnaaGreatDoor
open Go Go.Ev
section
attribute [local irreducible] kO kB kStr kInt kN kG kIf kfld kld kldN kst knew kmap kbld kbldS kext kcnv klenStr klen kcap kprt kprtN kbool kint kstr keq kun ksl kix kiv kta kmk kmm ksem ksemU kextf kcallV kcallM kcall kL
theorem refName_spec {s : ByteArray} (h : NameOk s) (w : World) : Meets Tryz.prog 122 #[.string s] w fun v w' => v = .bool true ∧ w' = w := by
 obtain ⟨h1, h8, hall⟩ := h
 have hsz : s.data.toList.length = s.size := rfl
 refine f122_ok ?_
 unfold f122
 refine klenStr_at ?_
 refine lss_at ?_
 refine kB_at ?_
 refine kIf_ndec (fun _ => ?_) (fun h => absurd h (by omega))
 refine klenStr_at ?_
 refine gtr_at ?_
 rw [decF (by omega)]
 unfold f122_0
 refine kB_at ?_
 refine kIf_F rfl ?_
 unfold f122_1
 refine kL1_of s.size (fun j x wr => x = .int .i64 j ∧ wr = w) ⟨lI1_0 ⟨rfl, rfl⟩, fun x wr hx => ?_⟩
 obtain ⟨j, hj, ⟨rfl, rfl⟩, hJ⟩ := lI1_step hx
 unfold f122_2
 refine klenStr_at ?_
 refine lss_at ?_
 refine kB_at ?_
 refine kIf_dec (fun hlt => ?_) (fun hge => ?_)
 ·have hlt : j < s.size := by omega
  have hjl : j < s.data.toList.length := by omega
  have hb := hall _ (List.getElem_mem hjl)
  have hel : s[j]? = some (s.data.toList[j]) := by
   rw [getElem?_pos s j hlt]
   rfl
  unfold f122_3
  rw [kiv_string]
  refine kG_of (by omega) ?_
  rw [Int.toNat_natCast, hel]
  refine kO_at ?_
  generalize s.data.toList[j] = x at *
  refine lss_at ?_
  refine kB_at ?_
  refine kIf_ndec (fun _ => ?_) (fun h => absurd h (by omega))
  rw [kiv_string]
  refine kG_of (by omega) ?_
  rw [Int.toNat_natCast, hel]
  refine kO_at ?_
  refine gtr_at ?_
  rw [decF (by omega)]
  unfold f122_4
  refine kB_at ?_
  refine kIf_F rfl ?_
  unfold f122_5
  refine add_at (by omega) (by omega) ?_
  rw [cast_succ]
  exact hJ _ _ hlt ⟨rfl, rfl⟩
 ·exact ⟨rfl, rfl⟩
theorem digits_spec {n : Nat} (hn : n < 10) (w : World) : Meets Tryz.prog 121 #[.int .i64 n] w fun v w' => (∃ s : ByteArray, v = .string s ∧ s.size ≤ 10) ∧ w' = w := by
 refine f121_ok ?_
 unfold f121
 refine lss_at ?_
 refine kB_at ?_
 refine kIf_T (decT (by omega)) ?_
 refine add_at (by omega) (by omega) ?_
 rw [ksl_string rfl rfl]
 refine kG_of ?_ ?_
 ·simp only [loV_int, hiV_int]
  refine ⟨by omega, by omega, ?_⟩
  show (n : Int) + 1 ≤ 10
  omega
 refine ⟨⟨_, rfl, ?_⟩, rfl⟩
 rw [ByteArray.size_extract]
 show min _ 10 - _ ≤ 10
 omega
section
variable {w : World} {a : Option Addr} {L : List Comp} {cp : Nat} {ra : Option Addr} {R : List ResM} {rc : Nat}
theorem refFind (hs : SlIs w a L.length 7 (L.flatMap Comp.cells)) (hL : L.length ≤ 16) (nm : ByteArray) :
  Meets Tryz.prog 123 #[scV a L.length cp (.slice ra R.length rc), .string nm] w fun v w' => (∃ k b, v = .tuple #[.int .i64 k, .bool b] ∧ (b = true → ∃ (i : Nat) (hi : i < L.length), k = (i : Int) ∧ (L[i]).name = nm ∧ ∀ j (hj : j < i), (L[j]'(by omega)).name ≠ nm)) ∧ Same w w' := by
 rw [scV]
 refine f123_ok ?_
 unfold f123
 refine knew_of fun w2 h2 hs2 hb2 => ?_
 have hb2 : blk w2 w.heap.size = some (.cells #[.slice a L.length cp, .slice ra R.length rc] 25) := hb2
 have hs' := hs.same h2
 refine kL1_of L.length (fun j x wr => x = .int .i64 j ∧ wr = w2 ∧ ∀ i (hi : i < j) (hL : i < L.length), (L[i]).name ≠ nm) ⟨lI1_0 ⟨rfl, rfl, fun i hi => absurd hi (Nat.not_lt_zero i)⟩, fun x wr hx => ?_⟩
 obtain ⟨j, hj, ⟨rfl, rfl, hno⟩, hJ⟩ := lI1_step hx
 unfold f123_0
 refine kfld_of ?_
 refine kld_of (v := .slice a L.length cp) hb2 rfl ?_
 refine klen_at ?_
 refine lss_at ?_
 refine kB_at ?_
 refine kIf_dec (fun hlt => ?_) (fun hge => ?_)
 ·have hlt : j < L.length := by omega
  unfold f123_1
  refine kfld_of ?_
  refine kld_of (v := .slice a L.length cp) hb2 rfl ?_
  refine kixfld_of (F := Comp.cells) (sz := 7) (fun _ => rfl) (j := 0) hs' hlt rfl rfl ?_
  refine kstr_eql_at ?_
  refine kB_at ?_
  refine kIf_dec (fun he => ?_) (fun he => ?_)
  ·exact ⟨⟨_, true, rfl, fun _ => ⟨j, hlt, rfl, he, fun i hi => hno i hi (by omega)⟩⟩, h2⟩
  ·unfold f123_2
   refine add_at (by omega) (by omega) ?_
   rw [cast_succ]
   refine hJ _ _ hlt ⟨rfl, rfl, fun i hi hL => ?_⟩
   by_cases e : i = j
   ·subst e; exact he
   ·exact hno i (by omega) hL
 ·exact ⟨⟨_, false, rfl, fun h => Bool.noConfusion h⟩, h2⟩
theorem refRes (hr : SlIs w ra R.length 2 (R.flatMap ResM.cells)) (hR : R.length ≤ 8) (nm : ByteArray) :
  Meets Tryz.prog 124 #[scV a L.length cp (.slice ra R.length rc), .string nm] w fun v w' => (∃ k b, v = .tuple #[.int .i64 k, .bool b] ∧ (b = true → ∃ (i : Nat) (hi : i < R.length), k = (i : Int) ∧ (R[i]).name = nm)) ∧ Same w w' := by
 rw [scV]
 refine f124_ok ?_
 unfold f124
 refine knew_of fun w2 h2 hs2 hb2 => ?_
 have hb2 : blk w2 w.heap.size = some (.cells #[.slice a L.length cp, .slice ra R.length rc] 25) := hb2
 have hs' := hr.same h2
 refine kL1_of R.length (fun j x wr => x = .int .i64 j ∧ wr = w2) ⟨lI1_0 ⟨rfl, rfl⟩, fun x wr hx => ?_⟩
 obtain ⟨j, hj, ⟨rfl, rfl⟩, hJ⟩ := lI1_step hx
 unfold f124_0
 refine kfld_of ?_
 refine kld_of (v := .slice ra R.length rc) hb2 rfl ?_
 refine klen_at ?_
 refine lss_at ?_
 refine kB_at ?_
 refine kIf_dec (fun hlt => ?_) (fun hge => ?_)
 ·have hlt : j < R.length := by omega
  unfold f124_1
  refine kfld_of ?_
  refine kld_of (v := .slice ra R.length rc) hb2 rfl ?_
  refine kixfld_of (F := ResM.cells) (sz := 2) (fun _ => rfl) (j := 0) hs' hlt rfl rfl ?_
  refine kstr_eql_at ?_
  refine kB_at ?_
  refine kIf_dec (fun he => ?_) (fun he => ?_)
  ·exact ⟨⟨_, true, rfl, fun _ => ⟨j, hlt, rfl, he⟩⟩, h2⟩
  ·unfold f124_2
   refine add_at (by omega) (by omega) ?_
   rw [cast_succ]
   exact hJ _ _ hlt ⟨rfl, rfl⟩
 ·exact ⟨⟨_, false, rfl, fun h => Bool.noConfusion h⟩, h2⟩
theorem cell_d {q : Comp} (d : Nat) (hq : q.width = (d : Int)) (h1 : 1 ≤ d) (hc : (q.width ≤ 1 → q.d1 = 0) ∧ (q.width ≤ 2 → q.d2 = 0) ∧ (q.width ≤ 3 → q.d3 = 0)) {i : Nat} (hi : d ≤ i) (h4 : i < 4) : nth q.cells (3 + i) = some (.int .i64 0) := by
 obtain ⟨c1, c2, c3⟩ := hc
 have hi' : i = 1 ∨ i = 2 ∨ i = 3 := by omega
 rcases hi' with rfl | rfl | rfl
 ·rw [← c1 (by omega)]; rfl
 ·rw [← c2 (by omega)]; rfl
 ·rw [← c3 (by omega)]; rfl
theorem refCheck (hs : SlIs w a L.length 7 (L.flatMap Comp.cells)) (hG : GoodSc L) (hL10 : L.length ≤ 10) (hr : SlIs w ra R.length 2 (R.flatMap ResM.cells)) (hGR : GoodR L R) :
  Meets Tryz.prog 70 #[scV a L.length cp (.slice ra R.length rc)] w fun v w' => (∃ b, v = .slice (some b) 0 0) ∧ Same w w' := by
 have hR := hGR.len
 rw [scV]
 refine f70_ok ?_
 unfold f70
 refine knew_of fun w2 h2 hs2 hb2 => ?_
 have hb2 : blk w2 w.heap.size = some (.cells #[.slice a L.length cp, .slice ra R.length rc] 25) := hb2
 refine kbldS_of (cs := []) rfl fun w4 h4 hs4 hb4 => ?_
 have m4 := h2.trans h4
 have hb4' := h4.get hb2 (fun h => h)
 generalize hv3 : (Value.slice (some ⟨w2.heap.size, 0, none⟩) 0 0) = v3
 have hpost : ∃ b, v3 = .slice (some b) 0 0 := ⟨_, hv3.symm⟩
 refine kfld_of ?_
 refine kld_of (v := .slice a L.length cp) hb4' rfl ?_
 refine klen_at ?_
 refine gtr_at ?_
 refine kB_at ?_
 refine kIf_F (decF (by omega)) ?_
 unfold f70_0
 refine kL2_of L.length (fun j x y wr => x = v3 ∧ y = .int .i64 j ∧ Same w4 wr) ⟨lI2_0 ⟨rfl, rfl, Mod.refl _ _⟩, fun x y wr hx => ?_⟩
 obtain ⟨j, hj, ⟨rfl, rfl, mr⟩, hJ⟩ := lI2_step hx
 have hbr := mr.get hb4' (fun h => h)
 have hsr := hs.same (m4.trans mr)
 have hrr := hr.same (m4.trans mr)
 unfold f70_1
 refine kfld_of ?_
 refine kld_of (v := .slice a L.length cp) hbr rfl ?_
 refine klen_at ?_
 refine lss_at ?_
 refine kB_at ?_
 refine kIf_dec (fun hlt => ?_) (fun hge => ?_)
 ·have hlt : j < L.length := by omega
  obtain ⟨d, hd, hd1, hd4⟩ := hG.wide _ (List.getElem_mem hlt)
  have hcl := hG.clean _ (List.getElem_mem hlt)
  have hnm := hG.names _ (List.getElem_mem hlt)
  unfold f70_2
  refine kfld_of ?_
  refine kld_of (v := .slice a L.length cp) hbr rfl ?_
  refine kixldN_of (F := Comp.cells) (sz := 7) (fun _ => rfl) (by omega) hsr hlt rfl ?_
  refine knew_of fun w24 h24 hs24 hb24 => ?_
  refine kst_of (vs := (L[j]).cells) hb24 rfl rfl rfl (by simp) (by simp [Comp.cells]) fun w25 h25 hs25 hb25 => ?_
  have hb25 : blk w25 wr.heap.size = some (.cells (L[j]).cells.toArray 80) := hb25
  have m25 : Same wr w25 := h24.trans' (h25.mono fun k _ e => .inr (by omega))
  refine kcall_of (digits_spec (n := j) (by omega) w25) ?_
  rintro v w28 ⟨⟨s, rfl, hsz⟩, rfl⟩
  rw [kstr_add]
  refine kG_of (by show 11 + s.size ≤ _; omega) ?_
  rw [kstr_add]
  refine kG_of (by rw [ByteArray.size_append]; show 11 + s.size + 1 ≤ _; omega) ?_
  refine kfld_of ?_
  refine kld_of (v := .string (L[j]).name) hb25 rfl ?_
  refine kcall_of (refName_spec hnm w28) ?_
  rintro v w34 ⟨rfl, rfl⟩
  refine not_at ?_
  refine kB_at ?_
  refine kIf_F rfl ?_
  refine kldN_at (m25.get hbr (fun h => h)) rfl (by omega) ?_
  refine kfld_of ?_
  refine kld_of (v := .string (L[j]).name) hb25 rfl ?_
  have hfi := refFind (cp := cp) (rc := rc) (hsr.same m25) hG.len (R := R) (ra := ra) (L[j]).name
  rw [scV] at hfi
  refine kcall_of hfi ?_
  rintro v w79 ⟨⟨k, b, rfl, hfk⟩, h79⟩
  refine kext_at rfl ?_
  refine kext_at rfl ?_
  have m79 := m25.trans h79
  have hb79 := h79.get hb25 (fun h => h)
  have wide : ∀ (at6 : Value) (J : Value → Value → World → Prop) (Q : PQ), (∀ w', Same wr w' → J x (.int .i64 ((j + 1 : Nat) : Int)) w') → f70_3 (.pointer (some ⟨w.heap.size, 0, none⟩)) x (.int .i64 j) (.pointer (some ⟨wr.heap.size, 0, none⟩)) at6 J Q w79 := by
   intro at6 J Q hQ
   have hw1 : nth (L[j]).cells.toArray.toList 1 = some (.int .i64 (d : Int)) := by rw [← hd]; rfl
   unfold f70_3
   refine kfld_of ?_
   refine kld_at hb79 hw1 ?_
   refine lss_at ?_
   refine kB_at ?_
   refine kIf_ndec (fun _ => ?_) (fun h => absurd h (by omega))
   refine kfld_of ?_
   refine kld_at hb79 hw1 ?_
   refine gtr_at ?_
   rw [decF (by omega)]
   unfold f70_4
   refine kB_at ?_
   refine kIf_F rfl ?_
   unfold f70_6
   refine kfld_of ?_
   refine kld_at hb79 hw1 ?_
   refine kL2_of (4 - d) (fun i x' y wr' => x' = .bool true ∧ y = .int .i64 ((d + i : Nat) : Int) ∧ wr' = w79) ⟨lI2_0 ⟨rfl, rfl, rfl⟩, fun x' y wr' hx => ?_⟩
   obtain ⟨i, hi, ⟨rfl, rfl, rfl⟩, hJ'⟩ := lI2_step hx
   unfold f70_7
   refine lss_at ?_
   refine kB_at ?_
   refine kIf_dec (fun hlt' => ?_) (fun hge' => ?_)
   ·have hc : nth (L[j]).cells.toArray.toList (0 + 3 + (d + i) * 1) = some (.int .i64 0) := by
     rw [Nat.zero_add, Nat.mul_one]
     exact cell_d d hd hd1 hcl (by omega) (by omega)
    unfold f70_8
    refine kB_at ?_
    refine kIf_T rfl ?_
    refine kfld_of ?_
    rw [kix_array]
    refine kG_of (by omega) ?_
    rw [add_mk]
    refine kld_at (o := 0 + 3 + (d + i) * 1) hb79 hc ?_
    refine eql_at ?_
    unfold f70_9
    refine add_at (by omega) (by omega) ?_
    rw [cast_succ]
    exact hJ' _ _ _ (by omega) ⟨rfl, rfl, rfl⟩
   ·unfold f70_10
    refine not_at ?_
    refine kB_at ?_
    refine kIf_F rfl ?_
    unfold f70_5
    refine add_at (by omega) (by omega) ?_
    rw [cast_succ]
    exact hQ _ m79
  have fin : ∀ w', Same wr w' → lI L.length (inv2 fun j x_1 y wr => x_1 = x ∧ y = .int .i64 j ∧ Same w4 wr) (x, .int .i64 ((j + 1 : Nat) : Int), w') ∧ lM L.length (inv2 fun j x_1 y wr => x_1 = x ∧ y = .int .i64 j ∧ Same w4 wr) (x, .int .i64 ((j + 1 : Nat) : Int), w') < lM L.length (inv2 fun j x_1 y wr => x_1 = x ∧ y = .int .i64 j ∧ Same w4 wr) (x, .int .i64 j, wr) :=
   fun w' m => hJ _ _ _ hlt ⟨rfl, rfl, mr.trans m⟩
  refine kB_at ?_
  refine kIf_of (fun hb => ?_) (fun hb => ?_)
  ·obtain ⟨i, hi, rfl, hni, hfst⟩ := hfk hb
   have hij : i = j := hG.apart i j hi hlt hni
   subst hij
   refine lss_at ?_
   rw [decF (by omega)]
   unfold f70_11
   refine kB_at ?_
   refine kIf_F rfl ?_
   exact wide _ _ _ fin
  ·unfold f70_11
   refine kB_at ?_
   refine kIf_F rfl ?_
   exact wide _ _ _ fin
 ·unfold f70_12
  refine kfld_of ?_
  refine kld_of (v := .slice ra R.length rc) hbr rfl ?_
  refine klen_at ?_
  refine gtr_at ?_
  refine kB_at ?_
  refine kIf_F (decF (by omega)) ?_
  unfold f70_13
  clear hJ hx
  refine kL2_of R.length (fun j x' y wr' => x' = x ∧ y = .int .i64 j ∧ Same wr wr') ⟨lI2_0 ⟨rfl, rfl, Mod.refl _ _⟩, fun x' y ws hx => ?_⟩
  obtain ⟨j, hj, ⟨rfl, rfl, ms⟩, hJ⟩ := lI2_step hx
  have hbs := ms.get hbr (fun h => h)
  have hss := hsr.same ms
  have hrs := hrr.same ms
  have mws := (m4.trans mr).trans ms
  unfold f70_14
  refine kfld_of ?_
  refine kld_of (v := .slice ra R.length rc) hbs rfl ?_
  refine klen_at ?_
  refine lss_at ?_
  refine kB_at ?_
  refine kIf_dec (fun hlt => ?_) (fun hge => ?_)
  ·have hlt : j < R.length := by omega
   have hnm := hGR.names _ (List.getElem_mem hlt)
   unfold f70_15
   refine kfld_of ?_
   refine kld_of (v := .slice ra R.length rc) hbs rfl ?_
   refine kixfld_of (F := ResM.cells) (sz := 2) (fun _ => rfl) (j := 0) hrs hlt rfl rfl ?_
   refine kcall_of (digits_spec (n := j) (by omega) ws) ?_
   rintro v w28 ⟨⟨s, rfl, hsz⟩, rfl⟩
   rw [kstr_add]
   refine kG_of (by show 10 + s.size ≤ _; omega) ?_
   rw [kstr_add]
   refine kG_of (by rw [ByteArray.size_append]; show 10 + s.size + 5 ≤ _; omega) ?_
   refine kldN_at hbs rfl (by omega) ?_
   have hfi := refFind (cp := cp) (rc := rc) hss hG.len (R := R) (ra := ra) (R[j]).name
   rw [scV] at hfi
   refine kcall_of hfi ?_
   rintro v w79 ⟨⟨k, b, rfl, hfk⟩, h79⟩
   refine kext_at rfl ?_
   refine kext_at rfl ?_
   refine kldN_at (h79.get hbs (fun h => h)) rfl (by omega) ?_
   have hfr := refRes (cp := cp) (rc := rc) (a := a) (L := L) (hrs.same h79) hR (R[j]).name
   rw [scV] at hfr
   refine kcall_of hfr ?_
   rintro v w83 ⟨⟨k2, b2, rfl, hfk2⟩, h83⟩
   refine kext_at rfl ?_
   refine kext_at rfl ?_
   refine kcall_of (refName_spec hnm w83) ?_
   rintro v w84 ⟨rfl, rfl⟩
   refine not_at ?_
   refine kB_at ?_
   refine kIf_F rfl ?_
   have hb : b = false := by
    cases hb : b with
    | false => rfl
    | true =>
     obtain ⟨i, hi, _, hni, _⟩ := hfk hb
     exact absurd hni (hGR.other _ (List.getElem_mem hlt) _ (List.getElem_mem hi))
   subst hb
   refine kB_at ?_
   refine kIf_T rfl ?_
   have fin : ∀ Q : PQ, ∀ J : Value → Value → World → Prop, J x' (.int .i64 ((j + 1 : Nat) : Int)) w84 → ∀ nm, f70_17 (.pointer (some ⟨w.heap.size, 0, none⟩)) x' (.int .i64 j) nm (.bool false) J Q w84 := by
    intro Q J h nm
    unfold f70_17
    refine kB_at ?_
    refine kIf_F rfl ?_
    unfold f70_16
    refine add_at (by omega) (by omega) ?_
    rw [cast_succ]
    exact h
   have hnx := hJ _ _ w84 hlt ⟨rfl, rfl, ms.trans (h79.trans h83)⟩
   refine kB_at ?_
   refine kIf_of (fun hb => ?_) (fun hb => ?_)
   ·obtain ⟨i, hi, rfl, hni⟩ := hfk2 hb
    have hij : i = j := hGR.apart i j hi hlt hni
    subst hij
    refine lss_at ?_
    rw [decF (by omega)]
    exact fin _ _ hnx _
   ·exact fin _ _ hnx _
  ·exact ⟨hpost, mws⟩
end
end
section
attribute [local irreducible] kO kB kStr kInt kN kG kIf kfld kld kldN kst knew kmap kbld kbldS kext kcnv klenStr klen kcap kprt kprtN kbool kint kstr keq kun ksl kix kiv kta kmk kmm ksem ksemU kextf kcallV kcallM kcall kL
theorem apPart2 : appT Tryz.prog 83 6 48 = true := by kernel_rfl
theorem slPart2_is : ∃ e, Tryz.prog.underlying 83 = some (.slice e) := slT_of (by kernel_rfl)
structure R14 where
 id : Int
 a : Option Addr
 n : Nat
 c : Nat
def R14.cells (r : R14) : List Value := [.int .i64 r.id, .slice r.a r.n r.c]
structure V14 (L : List Comp) (n bv : Nat) (U : Nat → Prop) (w : World) : Prop where
 ex : ∃ a cp rv la, ∃ ll : List R14, ∃ lc, ∃ mo fr nx sd : Int, ∃ gs, blk w bv = some (.cells #[.slice a L.length cp, rv, .int .i64 mo, .slice la ll.length lc, .int .i64 fr, .int .i64 nx, .int .i64 sd, gs, .slice none 0 0, .bool false] 169) ∧
  SlIs w a L.length 7 (L.flatMap Comp.cells) ∧ SlIs w la ll.length 2 (ll.flatMap R14.cells) ∧ ll.length ≤ n ∧ rv.cells = #[rv] ∧ (∀ k f, a = some ⟨k, f, none⟩ → U k ∧ k ≠ bv) ∧ ∀ k f, la = some ⟨k, f, none⟩ → U k ∧ k ≠ bv
 own : U bv
section
variable {L : List Comp} {n bv : Nat} {U : Nat → Prop} {w w' : World}
theorem V14.mod {fp : Nat → Prop} (h : V14 L n bv U w) (m : Mod fp w w') (hf : ∀ k, U k → ¬ fp k) : V14 L n bv U w' := by
 obtain ⟨⟨a, cp, rv, la, ll, lc, mo, fr, nx, sd, gs, h1, h2, h3, h4, h5, h6, h7⟩, h8⟩ := h
 exact ⟨⟨a, cp, rv, la, ll, lc, mo, fr, nx, sd, gs, m.get h1 (hf _ h8), h2.mod m (fun k f e => hf k (h6 k f e).1), h3.mod m (fun k f e => hf k (h7 k f e).1), h4, h5, h6, h7⟩, h8⟩
theorem V14.same (h : V14 L n bv U w) (m : Same w w') : V14 L n bv U w' := h.mod m fun _ _ h => h
theorem V14.weak {U' : Nat → Prop} {n' : Nat} (h : V14 L n bv U w) (hs : ∀ k, U k → U' k) (hn : n ≤ n') : V14 L n' bv U' w := by
 obtain ⟨⟨a, cp, rv, la, ll, lc, mo, fr, nx, sd, gs, h1, h2, h3, h4, h5, h6, h7⟩, h8⟩ := h
 exact ⟨⟨a, cp, rv, la, ll, lc, mo, fr, nx, sd, gs, h1, h2, h3, by omega, h5, fun k f e => ⟨hs k (h6 k f e).1, (h6 k f e).2⟩, fun k f e => ⟨hs k (h7 k f e).1, (h7 k f e).2⟩⟩, hs _ h8⟩
theorem r14Note (h : V14 L n bv U w) (u : Value) : Meets Tryz.prog 72 #[.pointer (some ⟨bv, 0, none⟩), u] w fun v w' => Same w w' := by
 obtain ⟨⟨a, cp, rv, la, ll, lc, mo, fr, nx, sd, gs, hb, _⟩, _⟩ := h
 refine f72_ok ?_
 unfold f72
 refine knew_of fun w2 h2 hs2 hb2 => ?_
 refine kN_at ?_
 refine kfld_of ?_
 refine kld_at (h2.get hb (fun h => h)) rfl ?_
 refine kB_at ?_
 refine kIf_F rfl ?_
 exact h2
theorem r14Tick (h : V14 L n bv U w) : Meets Tryz.prog 37 #[.pointer (some ⟨bv, 0, none⟩)] w fun v w' => V14 L n bv U w' ∧ Mod (fun k => k = bv) w w' := by
 refine f37_ok ?_
 unfold f37
 obtain ⟨a, cp, rv, la, ll, lc, mo, fr, nx, sd, gs, hb, _⟩ := id h.ex
 refine kN_at ?_
 refine kfld_of ?_
 refine kld_at hb rfl ?_
 refine geq_at ?_
 refine kB_at ?_
 refine kIf_dec (fun _ => ⟨h, Mod.refl _ _⟩) (fun _ => ?_)
 unfold f37_0
 refine kN_at ?_
 refine kfld_of ?_
 refine kld_at hb rfl ?_
 refine kbld_of (cs := [.int .i64 9, .int .i64 0, .int .i64 0, .int .i64 0, .int .i64 0, .int .i64 0, .int .i64 0, .int .i64 0, .slice none 0 0, .int .i64 0, .int .i64 fr]) rfl ?_
 refine kcall_of (r14Note h _) ?_
 rintro v w8 h8
 obtain ⟨⟨a, cp, rv, la, ll, lc, mo, fr, nx, sd, gs, h1, h2, h3, h4, h5, h6, h7⟩, hU⟩ := h.same h8
 refine kN_at ?_
 refine kfld_of ?_
 refine kld_at h1 rfl ?_
 rw [kint_add]
 refine kN_at ?_
 refine kfld_of ?_
 refine kst1_of h1 rfl rfl (by show 4 < 10; omega) fun w13 h13 hs13 hb13 => ?_
 exact ⟨⟨⟨a, cp, rv, la, ll, lc, mo, _, nx, sd, gs, hb13, h2.mod h13 (fun k f e => (h6 k f e).2), h3.mod h13 (fun k f e => (h7 k f e).2), h4, h5, h6, h7⟩, hU⟩, (Mod.of_same h8).trans h13⟩
theorem r09Fits {a : Option Addr} {cp : Nat} {rv : Value} (hrv : rv.cells = #[rv]) (hs : SlIs w a L.length 7 (L.flatMap Comp.cells)) (hG : GoodSc L) (q : Part) : Meets Tryz.prog 136 #[scV a L.length cp rv, .agg q.cells.toArray] w fun v w' => (∃ b, v = .bool b) ∧ Same w w' := by
 have hl := hG.len
 rw [scV]
 refine f136_ok ?_
 unfold f136
 refine knew_of fun w2 h2 hs2 hb2 => ?_
 have hb2 : blk w2 w.heap.size = some (.cells #[.slice a L.length cp, rv] 25) := hb2
 refine knew_of fun w4 h4 hs4 hb4 => ?_
 have hb2 := h4.get hb2 (fun h => h)
 have hb4 : blk w4 w2.heap.size = some (.cells q.cells.toArray 102) := hb4
 have hs' := hs.same (h2.trans h4)
 have m4 := h2.trans h4
 refine kfld_of ?_
 refine kld_at hb4 rfl ?_
 refine lss_at ?_
 refine kB_at ?_
 refine kIf_ndec (fun h0 => ?_) (fun h0 => ?_)
 ·refine kfld_of ?_
  refine kld_at hb4 rfl ?_
  refine kfld_of ?_
  refine kld_at hb2 rfl ?_
  refine klen_at ?_
  refine geq_at ?_
  by_cases h1 : (L.length : Int) ≤ q.comp
  ·rw [decT h1]
   unfold f136_0
   refine kB_at ?_
   refine kIf_T rfl ?_
   exact ⟨⟨_, rfl⟩, m4⟩
  ·rw [decF h1]
   obtain ⟨k, hk⟩ : ∃ k : Nat, q.comp = (k : Int) := ⟨q.comp.toNat, by omega⟩
   have hkl : k < L.length := by omega
   obtain ⟨d, hd, hd1, hd4⟩ := hG.wide _ (List.getElem_mem hkl)
   unfold f136_0
   refine kB_at ?_
   refine kIf_F rfl ?_
   unfold f136_1
   refine kfld_of ?_
   refine kld_at hb2 rfl ?_
   refine kfld_of ?_
   refine kld_of (v := .int .i64 k) hb4 (by rw [← hk]; rfl) ?_
   refine kixfld_of (F := Comp.cells) (sz := 7) (fun _ => rfl) (j := 1) hs' hkl rfl rfl ?_
   rw [hd]
   refine kL1_of (4 - d) (fun i x wr => x = .int .i64 ((d + i : Nat) : Int) ∧ wr = w4) ⟨lI1_0 ⟨rfl, rfl⟩, fun x wr hx => ?_⟩
   obtain ⟨i, hi, ⟨rfl, rfl⟩, hJ⟩ := lI1_step hx
   unfold f136_2
   refine lss_at ?_
   refine kB_at ?_
   refine kIf_dec (fun hlt => ?_) (fun hge => ?_)
   ·have hc : ∃ z : Int, nth q.cells.toArray.toList (0 + 1 + (d + i) * 1) = some (.int .i64 z) := by
     have h4 : d + i = 1 ∨ d + i = 2 ∨ d + i = 3 := by omega
     rcases h4 with h | h | h <;> rw [h] <;> exact ⟨_, rfl⟩
    obtain ⟨z, hc⟩ := hc
    unfold f136_3
    refine kfld_of ?_
    rw [kix_array]
    refine kG_of (by omega) ?_
    rw [add_mk]
    refine kld_at (o := 0 + 1 + (d + i) * 1) hb4 hc ?_
    refine neq_at ?_
    refine kB_at ?_
    refine kIf_dec (fun _ => ⟨⟨_, rfl⟩, m4⟩) (fun _ => ?_)
    unfold f136_4
    refine add_at (by omega) (by omega) ?_
    rw [cast_succ]
    exact hJ _ _ (by omega) ⟨rfl, rfl⟩
   ·exact ⟨⟨_, rfl⟩, m4⟩
 ·unfold f136_0
  refine kB_at ?_
  refine kIf_T rfl ?_
  exact ⟨⟨_, rfl⟩, m4⟩
theorem r09At {a : Option Addr} {P : List Part} {cp : Nat} (hs : SlIs w a P.length 6 (P.flatMap Part.cells)) (hn : P.length ≤ 100) (c : Int) : Meets Tryz.prog 137 #[.slice a P.length cp, .int .i64 c] w fun v w' => (∃ k : Int, v = .int .i64 k) ∧ Same w w' := by
 refine f137_ok ?_
 unfold f137
 refine kL1_of P.length (fun i x wr => x = .int .i64 i ∧ wr = w) ⟨lI1_0 ⟨rfl, rfl⟩, fun x wr hx => ?_⟩
 obtain ⟨i, hi, ⟨rfl, rfl⟩, hJ⟩ := lI1_step hx
 unfold f137_0
 refine klen_at ?_
 refine lss_at ?_
 refine kB_at ?_
 refine kIf_dec (fun hlt => ?_) (fun hge => ⟨⟨_, rfl⟩, Mod.refl _ _⟩)
 have hlt : i < P.length := by omega
 unfold f137_1
 refine kixfld_of (F := Part.cells) (sz := 6) (fun _ => rfl) (j := 0) hs hlt rfl rfl ?_
 refine eql_at ?_
 refine kB_at ?_
 refine kIf_dec (fun _ => ⟨⟨_, rfl⟩, Mod.refl _ _⟩) (fun _ => ?_)
 unfold f137_2
 refine add_at (by omega) (by omega) ?_
 rw [cast_succ]
 exact hJ _ _ hlt ⟨rfl, rfl⟩
def Mk6 (w : World) (n : Nat) (x : Value) (wr : World) : Prop := ∃ P : List Part, Own wr x 6 (P.flatMap Part.cells) ∧ P.length ≤ n ∧ (∀ k, vblk x k → w.heap.size ≤ k) ∧ Same w wr
theorem Mk6.same {w wr ws : World} {n : Nat} {x : Value} (h : Mk6 w n x wr) (m : Same wr ws) : Mk6 w n x ws := by
 obtain ⟨P, h1, h2, h3, h4⟩ := h
 exact ⟨P, h1.same m, h2, h3, h4.trans m⟩
theorem Mk6.more {w wr : World} {n n' : Nat} {x : Value} (h : Mk6 w n x wr) (hn : n ≤ n') : Mk6 w n' x wr := by
 obtain ⟨P, h1, h2, h3, h4⟩ := h
 exact ⟨P, h1, by omega, h3, h4⟩
theorem Mk6.app {w wr : World} {n : Nat} {x : Value} (h : Mk6 w n x wr) (hn : n ≤ 1000) (q : Part) {K : Value → World → Prop} (hK : ∀ y w', Mk6 w (n + 1) y w' → K y w') :
  kbldS [.int .i64 0, .int .i64 0, .int .i64 0, .int .i64 0, .int .i64 0, .int .i64 0] 1 [(0, 6, .agg q.cells.toArray)] 102 wr fun v w' => ksem Tryz.prog (Builtin.append_ #[83, 83] 0 #[x, v]) w' K := by
 obtain ⟨P, h1, h2, h3, h4⟩ := h
 refine kbldS_of (cs := q.cells) rfl fun w24 h24 hs24 hb24 => ?_
 have hfl := flat_len Part.cells 6 (fun _ => rfl) P
 refine ksem_append apPart2 (by omega) (h1.same h24) (Src.ofSlIs (hk := slPart2_is.choose_spec) 1 (SlIs.blk hb24 rfl) rfl) (by rw [hfl]; show P.length * 6 + 6 ≤ _; omega) (by rw [hfl]; show _; simp [Part.cells]; omega) ?_
 intro v' w4 ho4 hm4 hf4
 refine hK v' w4 ⟨P ++ [q], by simpa using ho4, by rw [List.length_append, List.length_singleton]; omega, fun k hk => ?_, (h4.trans h24).trans' (hm4.mono fun k _ e => .inr (h3 k e))⟩
 rcases hf4 k hk with h | h
 ·exact h3 k h
 ·exact Nat.le_trans (h4.trans h24).size h
end
end
section
def f16_2 (x0 x1 x2 : Value) (J3 : Value → World → Prop) (Q : PQ) (w : World) : Prop :=
 kint .i64 .add x2 (.int .i64 1) fun v26 =>
 J3 v26 w
def f16_1 (x0 x1 x2 : Value) (J3 : Value → World → Prop) (Q : PQ) (w : World) : Prop :=
 kfld 0 x1 fun v12 =>
 kld v12 w.drew fun v13 =>
 kG (w.drew = w.drew) <|
 kint .i64 .add x2 (.int .i64 1) fun v14 =>
 ksl (some .string) none (.string ⟨#[97, 98, 99, 100]⟩) (some x2) (some v14) fun v15 =>
 kint .i64 .add (.int .i64 1) x2 fun v16 =>
 kint .i64 .lss x2 (.int .i64 3) fun v17 =>
 kbld [.int .i64 0, .int .i64 0, .int .i64 0, .int .i64 0] [(0, 1, x2)] fun v18 =>
 kbld [(.string ⟨#[]⟩), .int .i64 0, .bool false, .int .i64 0, .int .i64 0, .int .i64 0, .int .i64 0] [(0, 1, v15), (1, 1, v16), (2, 1, v17), (3, 4, v18)] fun v19 =>
 kbldS [(.string ⟨#[]⟩), .int .i64 0, .bool false, .int .i64 0, .int .i64 0, .int .i64 0, .int .i64 0] 1 [(0, 7, v19)] 80 w.drew fun v20 w21 =>
 kG (kld v12 w21 fun v27 =>
 v27 = v13 ∧ w21 = w21) <|
 ksem Tryz.prog (Builtin.append_ #[22, 22] 0 #[v13, v20]) w21 fun v22 w23 =>
 kfld 0 x1 fun v24 =>
 kst 1 v24 v22 w23 fun w25 =>
 f16_2 x0 x1 x2 J3 Q w25
def f16_3 (x0 x1 : Value) (Q : PQ) (w : World) : Prop :=
 kldN 2 x1 w fun v28 =>
 kst 2 x0 v28 w fun w29 =>
 kldN 2 x0 w29 fun v30 =>
 Q v30 w29
def f16_0 (x2 x0 x1 : Value) (J3 : Value → World → Prop) (Q : PQ) (w : World) : Prop :=
 kint .i64 .lss x2 (.int .i64 4) fun v11 =>
 kB v11 fun b31 => kIf b31
 (f16_1 x0 x1 x2 J3 Q w)
 (f16_3 x0 x1 Q w)
def f16 (Q : PQ) (w : World) : Prop :=
 knew #[.slice none 0 0, .slice none 0 0] 25 w fun v1 w2 =>
 kbld [(.string ⟨#[]⟩), .int .i64 0] [(0, 1, (.string ⟨#[115]⟩)), (1, 1, (.int .i64 5))] fun v3 =>
 kbld [(.string ⟨#[]⟩), .int .i64 0] [(0, 1, (.string ⟨#[116]⟩))] fun v4 =>
 kbldS [(.string ⟨#[]⟩), .int .i64 0] 2 [(0, 2, v3), (2, 2, v4)] 82 w2 fun v5 w6 =>
 kbld [.slice none 0 0, .slice none 0 0] [(1, 1, v5)] fun v7 =>
 knew #[.slice none 0 0, .slice none 0 0] 25 w6 fun v8 w9 =>
 kst 2 v8 v7 w9 fun w10 =>
 kL fun (I : Value → World → Prop) (μ : Value → World → Nat) => I (.int .i64 0) w10 ∧ ∀ (x2 : Value) (w1 : World), I x2 w1 →
 f16_0 x2 v1 v8 (fun y2 w2 => I y2 w2 ∧ μ y2 w2 < μ x2 w1) Q w1
theorem f16_ok {Q : PQ} {w : World} (h : f16 Q w) : Meets Tryz.prog 16 #[] w Q :=
 sound' (c := Tryz.f16.body.get rfl) [(3, [2])] Tryz.func16 rfl rfl (args := []) rfl (by kernel_rfl) h
def f9_7 (x2 x7 x8 x10 x12 x13 x14 x15 x16 : Value) (J15 : Value → Value → World → Prop) (J11 : Value → World → Prop) (Q : PQ) (w : World) : Prop :=
 kint .i64 .add x16 (.int .i64 1) fun v74 =>
 J15 x15 v74 w
def f9_6 (x2 x7 x8 x10 x12 x13 x14 x15 x16 : Value) (J15 : Value → Value → World → Prop) (J11 : Value → World → Prop) (Q : PQ) (w : World) : Prop :=
 kfld 0 x2 fun v59 =>
 kld v59 w fun v60 =>
 kix (some (.slice 69)) (some 1) v60 x14 fun v61 =>
 kld v61 w fun v62 =>
 kint .u32 .shr v62 x16 fun v63 =>
 kint .u32 .rem v63 (.int .u32 2) fun v64 =>
 kint .u32 .eql v64 (.int .u32 1) fun v65 =>
 kB v65 fun b75 => kIf b75
 (kint .i64 .mul (.int .i64 10) x14 fun v66 =>
 kint .i64 .add v66 x16 fun v67 =>
 kbld [.int .i64 0, .int .i64 0, .int .i64 0, .int .i64 0] [(0, 1, v67)] fun v68 =>
 kbld [.int .i64 0, .int .i64 0, .int .i64 0, .int .i64 0, .int .i64 0, .int .i64 0] [(0, 1, x16), (1, 4, v68)] fun v69 =>
 kbldS [.int .i64 0, .int .i64 0, .int .i64 0, .int .i64 0, .int .i64 0, .int .i64 0] 1 [(0, 6, v69)] 102 w fun v70 w71 =>
 ksem Tryz.prog (Builtin.append_ #[83, 83] 0 #[x15, v70]) w71 fun v72 w73 =>
 f9_7 x2 x7 x8 x10 x12 x13 x14 v72 x16 J15 J11 Q w73)
 (f9_7 x2 x7 x8 x10 x12 x13 x14 x15 x16 J15 J11 Q w)
def f9_9 (x2 x7 x8 x10 x12 x13 x14 : Value) (J11 : Value → World → Prop) (Q : PQ) (w : World) : Prop :=
 kint .i64 .add x14 (.int .i64 1) fun v80 =>
 J11 v80 w
def f9_8 (x2 x7 x8 x10 x12 x13 x14 x15 : Value) (J11 : Value → World → Prop) (Q : PQ) (w : World) : Prop :=
 kcall Tryz.prog 38 #[x8, x15] w fun v76 w77 =>
 kcall Tryz.prog 39 #[x12, x15] w77 fun v78 w79 =>
 f9_9 x2 x7 x8 x10 x12 x13 x14 J11 Q w79
def f9_5 (x15 x16 x2 x7 x8 x10 x12 x13 x14 : Value) (J15 : Value → Value → World → Prop) (J11 : Value → World → Prop) (Q : PQ) (w : World) : Prop :=
 kint .i64 .lss x16 (.int .i64 4) fun v58 =>
 kB v58 fun b81 => kIf b81
 (f9_6 x2 x7 x8 x10 x12 x13 x14 x15 x16 J15 J11 Q w)
 (f9_8 x2 x7 x8 x10 x12 x13 x14 x15 J11 Q w)
def f9_4 (x2 x7 x8 x10 x12 x13 x14 : Value) (J11 : Value → World → Prop) (Q : PQ) (w : World) : Prop :=
 kbldS [.int .i64 0, .int .i64 0, .int .i64 0, .int .i64 0, .int .i64 0, .int .i64 0] 0 [] 102 w fun v56 w57 =>
 kL fun (I : Value → Value → World → Prop) (μ : Value → Value → World → Nat) => I v56 (.int .i64 0) w57 ∧ ∀ (x15 x16 : Value) (w1 : World), I x15 x16 w1 →
 f9_5 x15 x16 x2 x7 x8 x10 x12 x13 x14 (fun y15 y16 w2 => I y15 y16 w2 ∧ μ y15 y16 w2 < μ x15 x16 w1) J11 Q w1
def f9_12 (x7 x12 x13 : Value) (Q : PQ) (w : World) : Prop :=
 Q (.tuple #[x7, x12, x13]) w
def f9_11 (x2 x7 x10 x12 x13 : Value) (Q : PQ) (w : World) : Prop :=
 kfld 6 x2 fun v86 =>
 kld v86 w fun v87 =>
 kB v87 fun b90 => kIf b90
 (kN x7 <|
 kfld 1 x7 fun v88 =>
 kst 1 v88 x10 w fun w89 =>
 f9_12 x7 x12 x13 Q w89)
 (f9_12 x7 x12 (.pointer none) Q w)
def f9_10 (x2 x7 x8 x10 x12 x13 : Value) (Q : PQ) (w : World) : Prop :=
 kfld 5 x2 fun v82 =>
 kld v82 w fun v83 =>
 kB v83 fun b91 => kIf b91
 (kN x7 <|
 kfld 0 x7 fun v84 =>
 kst 1 v84 x8 w fun w85 =>
 f9_11 x2 x7 x10 x12 x13 Q w85)
 (f9_11 x2 x7 x10 (.pointer none) x13 Q w)
def f9_3 (x2 x7 x8 x10 x12 x13 x14 x69 : Value) (J11 : Value → World → Prop) (Q : PQ) (w : World) : Prop :=
 kB x69 fun b92 => kIf b92
 (f9_4 x2 x7 x8 x10 x12 x13 x14 J11 Q w)
 (f9_10 x2 x7 x8 x10 x12 x13 Q w)
def f9_2 (x14 x2 x7 x8 x10 x12 x13 : Value) (J11 : Value → World → Prop) (Q : PQ) (w : World) : Prop :=
 kfld 0 x2 fun v49 =>
 kld v49 w fun v50 =>
 klen v50 fun v51 =>
 kint .i64 .lss x14 v51 fun v53 =>
 kB v53 fun b54 => kIf b54
 (kint .i64 .lss x14 (.int .i64 20) fun v55 =>
 f9_3 x2 x7 x8 x10 x12 x13 x14 v55 J11 Q w)
 (f9_3 x2 x7 x8 x10 x12 x13 x14 (.bool false) J11 Q w)
def f9_1 (x1 x2 x7 x8 x10 : Value) (Q : PQ) (w : World) : Prop :=
 kcall Tryz.prog 16 #[] w.drew fun v35 w36 =>
 kfld 4 x2 fun v37 =>
 kld v37 w36 fun v38 =>
 kG (w36 = w36) <|
 kG (kld v37 w.drew fun v93 =>
 v93 = v38 ∧ w.drew = w.drew) <|
 kcall Tryz.prog 34 #[v35, .int .i64 20, v38] w36 fun v39 w40 =>
 kcall Tryz.prog 16 #[] w40 fun v41 w42 =>
 kcall Tryz.prog 35 #[v41, x1] w42 fun v43 w44 =>
 kcall Tryz.prog 36 #[x8] w44 fun v45 w46 =>
 kcall Tryz.prog 37 #[v39] w46 fun v47 w48 =>
 kL fun (I : Value → World → Prop) (μ : Value → World → Nat) => I (.int .i64 0) w48 ∧ ∀ (x14 : Value) (w1 : World), I x14 w1 →
 f9_2 x14 x2 x7 x8 x10 v39 v43 (fun y14 w2 => I y14 w2 ∧ μ y14 w2 < μ x14 w1) Q w1
def f9_0 (x1 x2 x7 x8 x10 x49 : Value) (Q : PQ) (w : World) : Prop :=
 kB x49 fun b94 => kIf b94
 (Q (.tuple #[.pointer none, .pointer none, .pointer none]) w)
 (f9_1 x1 x2 x7 x8 x10 Q w)
def f9 (x0 x1 : Value) (Q : PQ) (w : World) : Prop :=
 knew (Value.cells x0) 41 w fun v1 w2 =>
 kfld 1 v1 fun v3 =>
 kldN 2 v3 w2 fun v4 =>
 kfld 3 v1 fun v5 =>
 kld v5 w2 fun v6 =>
 kbld [.pointer none, .pointer none, .int .i64 0, .int .i64 0, .int .i64 0] [(2, 2, v4), (4, 1, v6)] fun v7 =>
 knew (Value.cells v7) 53 w2 fun v8 w9 =>
 kcall Tryz.prog 16 #[] w9.drew fun v10 w11 =>
 kfld 4 v1 fun v12 =>
 kld v12 w11 fun v13 =>
 kG (w11 = w11) <|
 kG (kld v12 w9.drew fun v95 =>
 v95 = v13 ∧ w9.drew = w9.drew) <|
 kcall Tryz.prog 32 #[v10, .int .i64 20, v13] w11 fun v14 w15 =>
 kext v14 0 fun v16 =>
 kext v14 1 fun v17 =>
 kcall Tryz.prog 16 #[] w15 fun v18 w19 =>
 kcall Tryz.prog 33 #[v18, x1] w19 fun v20 w21 =>
 kext v20 0 fun v22 =>
 kext v20 1 fun v23 =>
 keq Tryz.prog .eql 50 false true v16 (.pointer none) w21 fun v24 w25 =>
 kB v24 fun b26 => kIf (!b26)
 (keq Tryz.prog .eql 51 false true v22 (.pointer none) w25 fun v27 w28 =>
 kB v27 fun b29 => kIf (!b29)
 (keq Tryz.prog .neq 33 false true v17 .nilIface w28 fun v30 w31 =>
 kB v30 fun b32 => kIf (!b32)
 (keq Tryz.prog .neq 33 false true v23 .nilIface w31 fun v33 w34 =>
 f9_0 x1 v1 v8 v16 v22 v33 Q w34)
 (f9_0 x1 v1 v8 v16 v22 (.bool true) Q w31))
 (f9_0 x1 v1 v8 v16 v22 (.bool true) Q w28))
 (f9_0 x1 v1 v8 v16 v22 (.bool true) Q w25)
theorem f9_ok {x0 x1 : Value} {Q : PQ} {w : World} (h : f9 x0 x1 Q w) : Meets Tryz.prog 9 #[x0, x1] w Q :=
 sound' (c := Tryz.f9.body.get rfl) [(11, [14]), (15, [15, 16])] Tryz.func9 rfl rfl (args := [x0, x1]) rfl (by kernel_rfl) h
end
section
attribute [local irreducible] kO kB kStr kInt kN kG kIf kfld kld kldN kst knew kmap kbld kbldS kext kcnv klenStr klen kcap kprt kprtN kbool kint kstr keq kun ksl kix kiv kta kmk kmm ksem ksemU kextf kcallV kcallM kcall kL
def b2n (b : Bool) : Nat := if b = true then 1 else 0
section
variable {L : List Comp} {n bv : Nat} {U : Nat → Prop} {w w' : World}
theorem r09With {a : Option Addr} {P : List Part} {cp : Nat} (hs : SlIs w a P.length 6 (P.flatMap Part.cells)) (hn : P.length ≤ 100) (q : Part) : Meets Tryz.prog 138 #[.slice a P.length cp, .agg q.cells.toArray] w fun v w' => Mk6 w (P.length + 1) v w' := by
 refine f138_ok ?_
 unfold f138
 refine knew_of fun w2 h2 hs2 hb2 => ?_
 have hb2 : blk w2 w.heap.size = some (.cells q.cells.toArray 102) := hb2
 refine kbldS_of (cs := []) rfl fun w4 h4 hs4 hb4 => ?_
 have hs' := hs.same h2
 refine kL3_of P.length (fun i x y z wr => Mk6 w2 (i + (match y with | .bool b => b2n b | _ => 0)) x wr ∧ (∃ b, y = .bool b) ∧ z = .int .i64 i) ⟨lI3_0 ⟨⟨[], Own.blk hb4 (n := 0) (by simp) (by simp [maxLen]), Nat.zero_le _, fun k hk => by rw [vblk_new hk]; exact Nat.le_refl _, h4⟩, ⟨false, rfl⟩, rfl⟩, fun x y z wr hx => ?_⟩
 obtain ⟨i, hi, ⟨hMk, ⟨b, rfl⟩, rfl⟩, hJ⟩ := lI3_step hx
 have hMk : Mk6 w2 (i + b2n b) x wr := hMk
 have hmr : Same w2 wr := by obtain ⟨_, _, _, _, h⟩ := hMk; exact h
 have hbr := hmr.get hb2 (fun h => h)
 have hsr := hs'.same hmr
 have hb1 : b2n b ≤ 1 := by unfold b2n; split <;> omega
 unfold f138_0
 refine klen_at ?_
 refine lss_at ?_
 refine kB_at ?_
 refine kIf_dec (fun hlt => ?_) (fun hge => ?_)
 ·have hlt : i < P.length := by omega
  have last : ∀ (b' : Bool) (x' : Value) (ws : World), Mk6 w2 (i + b2n b') x' ws → f138_3 (.slice a P.length cp) (.pointer (some ⟨w.heap.size, 0, none⟩)) x' (.bool b') (.int .i64 i) (fun y5 y6 y7 w2_1 => lI P.length (inv3 fun i x y z wr => Mk6 w2 (i + (match y with | .bool b => b2n b | _ => 0)) x wr ∧ (∃ b, y = .bool b) ∧ z = .int .i64 i) (y5, y6, y7, w2_1) ∧ lM P.length (inv3 fun i x y z wr => Mk6 w2 (i + (match y with | .bool b => b2n b | _ => 0)) x wr ∧ (∃ b, y = .bool b) ∧ z = .int .i64 i) (y5, y6, y7, w2_1) < lM P.length (inv3 fun i x y z wr => Mk6 w2 (i + (match y with | .bool b => b2n b | _ => 0)) x wr ∧ (∃ b, y = .bool b) ∧ z = .int .i64 i) (x, .bool b, .int .i64 i, wr)) (fun v w' => Mk6 w (P.length + 1) v w') ws := by
   intro b' x' ws hk
   have hms : Same w2 ws := by obtain ⟨_, _, _, _, h⟩ := hk; exact h
   have hb1' : b2n b' ≤ 1 := by unfold b2n; split <;> omega
   unfold f138_3
   refine kixldN_of (F := Part.cells) (sz := 6) (fun _ => rfl) (by omega) (hs'.same hms) hlt rfl ?_
   refine hk.app (by omega) _ fun y wt hy => ?_
   unfold f138_4
   refine add_at (by omega) (by omega) ?_
   rw [cast_succ]
   exact hJ _ _ _ _ hlt ⟨hy.more (by show _ ≤ i + 1 + b2n b'; omega), ⟨b', rfl⟩, rfl⟩
  unfold f138_1
  refine not_at ?_
  refine kB_at ?_
  refine kIf_of (fun hb => ?_) (fun hb => ?_)
  ·have hb : b = false := by simpa using hb
   subst hb
   refine kixfld_of (F := Part.cells) (sz := 6) (fun _ => rfl) (j := 0) hsr hlt rfl rfl ?_
   refine kG_of rfl ?_
   have md : Same wr wr.drew := (Mod.refl (fun _ => False) _).drew
   have hMd := hMk.same md
   have hbd := md.get hbr (fun h => h)
   refine kfld_of ?_
   refine kld_at hbd rfl ?_
   refine kG_of rfl ?_
   refine gtr_at ?_
   unfold f138_2
   refine kB_at ?_
   refine kIf_dec (fun _ => ?_) (fun _ => last false _ _ hMd)
   refine kldN_at hbd rfl (by omega) ?_
   exact hMd.app (by omega) _ fun y wt hy => last true _ _ hy
  ·have hb : b = true := by simpa using hb
   subst hb
   unfold f138_2
   refine kB_at ?_
   refine kIf_F rfl ?_
   exact last true _ _ (hMk.same (Mod.refl (fun _ => False) _).drew)
 ·have hi' : i = P.length := by omega
  subst hi'
  have up : ∀ {m : Nat} {x : Value} {ws : World}, Mk6 w2 m x ws → m ≤ P.length + 1 → Mk6 w (P.length + 1) x ws := fun hk hm => by
   obtain ⟨P', h1, hh2, h3, h4⟩ := hk
   exact ⟨P', h1, by omega, fun k hk => Nat.le_trans h2.size (h3 k hk), h2.trans h4⟩
  unfold f138_5
  refine not_at ?_
  refine kB_at ?_
  refine kIf_of (fun hb => ?_) (fun hb => ?_)
  ·have hb : b = false := by simpa using hb
   subst hb
   refine kldN_at hbr rfl (by omega) ?_
   exact hMk.app (by omega) _ fun y wt hy => up hy (by show P.length + 0 + 1 ≤ _; omega)
  ·exact up hMk (by omega)
theorem r14Gathered (h : V14 L n bv U w) (hG : GoodSc L) {a : Option Addr} {P : List Part} {cp : Nat} (hs : SlIs w a P.length 6 (P.flatMap Part.cells)) (hn : P.length ≤ 64) : Meets Tryz.prog 77 #[.pointer (some ⟨bv, 0, none⟩), .slice a P.length cp] w fun v w' => (∃ a n c, ∃ e : Int, v = .tuple #[.slice a n c, .int .i64 e]) ∧ Same w w' := by
 refine f77_ok ?_
 unfold f77
 refine kbldS_of (cs := []) rfl fun w4 h4 hs4 hb4 => ?_
 refine kL3_of P.length (fun i x y z wr => Mk6 w i x wr ∧ (∃ b, y = .bool b) ∧ z = .int .i64 i) ⟨lI3_0 ⟨⟨[], Own.blk hb4 (n := 0) (by simp) (by simp [maxLen]), Nat.zero_le _, fun k hk => by rw [vblk_new hk]; exact Nat.le_refl _, h4⟩, ⟨false, rfl⟩, rfl⟩, fun x y z wr hx => ?_⟩
 obtain ⟨i, hi, ⟨hMk, ⟨b, rfl⟩, rfl⟩, hJ⟩ := lI3_step hx
 have hmr : Same w wr := by obtain ⟨_, _, _, _, h⟩ := hMk; exact h
 have hsr := hs.same hmr
 unfold f77_0
 refine klen_at ?_
 refine lss_at ?_
 refine kB_at ?_
 refine kIf_dec (fun hlt => ?_) (fun hge => ?_)
 ·have hlt : i < P.length := by omega
  have md : Same wr wr.drew := (Mod.refl (fun _ => False) _).drew
  have mrd := hmr.trans md
  have hMd := hMk.same md
  have hsd := hs.same mrd
  obtain ⟨⟨a1, cp1, rv, la, ll, lc, mo, fr, nx, sd, gs, hb, hc, _, _, hrv, _⟩, _⟩ := h.same mrd
  unfold f77_1
  generalize wr.drew = wd at *
  refine kN_at ?_
  refine kfld_of ?_
  refine kldN_at hb rfl (by omega) ?_
  refine kG_of rfl ?_
  refine kixldN_of (F := Part.cells) (sz := 6) (fun _ => rfl) (by omega) hsd hlt rfl ?_
  refine kG_of rfl ?_
  refine kcall_of (r09Fits (cp := cp1) hrv hc hG _) ?_
  rintro v w11 ⟨⟨bf, rfl⟩, h11⟩
  refine not_at ?_
  refine kB_at ?_
  refine kIf_of (fun _ => ⟨⟨_, _, _, _, rfl⟩, mrd.trans h11⟩) (fun _ => ?_)
  have hM11 := hMd.same h11
  have hs11 := hsd.same h11
  have last : ∀ (b' : Bool) (ws : World), Mk6 w i x ws → f77_3 (.pointer (some ⟨bv, 0, none⟩)) (.slice a P.length cp) x (.bool b') (.int .i64 i) (fun y6 y7 y8 w2_1 => lI P.length (inv3 fun i x y z wr => Mk6 w i x wr ∧ (∃ b, y = .bool b) ∧ z = .int .i64 i) (y6, y7, y8, w2_1) ∧ lM P.length (inv3 fun i x y z wr => Mk6 w i x wr ∧ (∃ b, y = .bool b) ∧ z = .int .i64 i) (y6, y7, y8, w2_1) < lM P.length (inv3 fun i x y z wr => Mk6 w i x wr ∧ (∃ b, y = .bool b) ∧ z = .int .i64 i) (x, .bool b, .int .i64 i, wr)) (fun v w' => (∃ a n c, ∃ e : Int, v = .tuple #[.slice a n c, .int .i64 e]) ∧ Same w w') ws := by
   intro b' ws hk
   have hms : Same w ws := by obtain ⟨_, _, _, _, h⟩ := hk; exact h
   obtain ⟨P', hO, hP', hfr, _⟩ := hk
   obtain ⟨a', n', c', rfl, hsl, _⟩ := hO.is
   have hn' : n' = P'.length := by
    have := hsl.1
    rw [flat_len Part.cells 6 (fun _ => rfl)] at this
    omega
   subst hn'
   unfold f77_3
   refine kixldN_of (F := Part.cells) (sz := 6) (fun _ => rfl) (by omega) (hs.same hms) hlt rfl ?_
   refine kcall_of (r09With hsl (by omega) _) ?_
   rintro v w23 ⟨P2, k1, k2, k3, k4⟩
   unfold f77_4
   refine add_at (by omega) (by omega) ?_
   rw [cast_succ]
   exact hJ _ _ _ _ hlt ⟨⟨P2, k1, by omega, fun k hk => Nat.le_trans hms.size (k3 k hk), hms.trans k4⟩, ⟨b', rfl⟩, rfl⟩
  unfold f77_2
  refine kB_at ?_
  refine kIf_of (fun _ => ?_) (fun _ => last true _ hM11)
  refine kixfld_of (F := Part.cells) (sz := 6) (fun _ => rfl) (j := 0) hs11 hlt rfl rfl ?_
  obtain ⟨P', hO, hP', hfr, _⟩ := id hM11
  obtain ⟨a', n', c', rfl, hsl, _⟩ := hO.is
  have hn' : n' = P'.length := by
   have := hsl.1
   rw [flat_len Part.cells 6 (fun _ => rfl)] at this
   omega
  subst hn'
  refine kcall_of (r09At hsl (by omega) _) ?_
  rintro v w18 ⟨⟨k, rfl⟩, h18⟩
  refine geq_at ?_
  exact last _ _ (hM11.same h18)
 ·obtain ⟨P', hO, hP', hfr, _⟩ := hMk
  obtain ⟨a', n', c', rfl, hsl, _⟩ := hO.is
  unfold f77_5
  refine kB_at ?_
  refine kIf_of (fun _ => ⟨⟨_, _, _, _, rfl⟩, hmr⟩) (fun _ => ⟨⟨_, _, _, _, rfl⟩, hmr⟩)
end
end
section
attribute [local irreducible] kO kB kStr kInt kN kG kIf kfld kld kldN kst knew kmap kbld kbldS kext kcnv klenStr klen kcap kprt kprtN kbool kint kstr keq kun ksl kix kiv kta kmk kmm ksem ksemU kextf kcallV kcallM kcall kL
theorem apBe14 : appT Tryz.prog 166 2 32 = true := by kernel_rfl
theorem slBe14_is : ∃ e, Tryz.prog.underlying 166 = some (.slice e) := slT_of (by kernel_rfl)
def Mk2 (w : World) (n : Nat) (x : Value) (wr : World) : Prop := ∃ P : List R14, Own wr x 2 (P.flatMap R14.cells) ∧ P.length ≤ n ∧ (∀ k, vblk x k → w.heap.size ≤ k) ∧ Same w wr
theorem Mk2.same {w wr ws : World} {n : Nat} {x : Value} (h : Mk2 w n x wr) (m : Same wr ws) : Mk2 w n x ws := by
 obtain ⟨P, h1, h2, h3, h4⟩ := h
 exact ⟨P, h1.same m, h2, h3, h4.trans m⟩
theorem Mk2.more {w wr : World} {n n' : Nat} {x : Value} (h : Mk2 w n x wr) (hn : n ≤ n') : Mk2 w n' x wr := by
 obtain ⟨P, h1, h2, h3, h4⟩ := h
 exact ⟨P, h1, by omega, h3, h4⟩
theorem Mk2.app {w wr : World} {n : Nat} {x : Value} (h : Mk2 w n x wr) (hn : n ≤ 1000) (q : R14) {K : Value → World → Prop} (hK : ∀ y w', Mk2 w (n + 1) y w' → K y w') :
  kbldS [.int .i64 0, .slice none 0 0] 1 [(0, 2, .agg q.cells.toArray)] 270 wr fun v w' => ksem Tryz.prog (Builtin.append_ #[166, 166] 0 #[x, v]) w' K := by
 obtain ⟨P, h1, h2, h3, h4⟩ := h
 refine kbldS_of (cs := q.cells) rfl fun w24 h24 hs24 hb24 => ?_
 have hfl := flat_len R14.cells 2 (fun _ => rfl) P
 refine ksem_append apBe14 (by omega) (h1.same h24) (Src.ofSlIs (hk := slBe14_is.choose_spec) 1 (SlIs.blk hb24 rfl) rfl) (by rw [hfl]; show P.length * 2 + 2 ≤ _; omega) (by rw [hfl]; show _; simp [R14.cells]; omega) ?_
 intro v' w4 ho4 hm4 hf4
 refine hK v' w4 ⟨P ++ [q], by simpa using ho4, by rw [List.length_append, List.length_singleton]; omega, fun k hk => ?_, (h4.trans h24).trans' (hm4.mono fun k _ e => .inr (h3 k e))⟩
 rcases hf4 k hk with h | h
 ·exact h3 k h
 ·exact Nat.le_trans (h4.trans h24).size h
section
variable {L : List Comp} {n bv : Nat} {U : Nat → Prop} {w w' : World}
theorem r14Add (h : V14 L n bv U w) (hU : ∀ k, U k → k < w.heap.size) (hn : n ≤ 100) (nid : Int) (q : R14) : Meets Tryz.prog 78 #[.pointer (some ⟨bv, 0, none⟩), .int .i64 nid, .slice q.a q.n q.c] w fun v w' => V14 L (n + 1) bv (newB w w' U) w' ∧ Mod (fun k => k = bv) w w' := by
 refine f78_ok ?_
 unfold f78
 refine kbldS_of (cs := []) rfl fun w4 h4 hs4 hb4 => ?_
 obtain ⟨⟨a, cp, rv, la, ll, lc, mo, fr, nx, sd, gs, h1, h2, h3, h4', h5, h6, h7⟩, hU8⟩ := h
 refine kL3_of ll.length (fun i x y z wr => Mk2 w (i + (match y with | .bool b => b2n b | _ => 0)) x wr ∧ (∃ b, y = .bool b) ∧ z = .int .i64 i) ⟨lI3_0 ⟨⟨[], Own.blk hb4 (n := 0) (by simp) (by simp [maxLen]), Nat.zero_le _, fun k hk => by rw [vblk_new hk]; exact Nat.le_refl _, h4⟩, ⟨false, rfl⟩, rfl⟩, fun x y z wr hx => ?_⟩
 obtain ⟨i, hi, ⟨hMk, ⟨b, rfl⟩, rfl⟩, hJ⟩ := lI3_step hx
 have hMk : Mk2 w (i + b2n b) x wr := hMk
 have hmr : Same w wr := by obtain ⟨_, _, _, _, h⟩ := hMk; exact h
 have hbr := hmr.get h1 (fun h => h)
 have hb1 : b2n b ≤ 1 := by unfold b2n; split <;> omega
 unfold f78_0
 refine kN_at ?_
 refine kfld_of ?_
 refine kld_at hbr rfl ?_
 refine klen_at ?_
 refine lss_at ?_
 refine kB_at ?_
 refine kIf_dec (fun hlt => ?_) (fun hge => ?_)
 ·have hlt : i < ll.length := by omega
  have last : ∀ (b' : Bool) (x' : Value) (ws : World), Mk2 w (i + b2n b') x' ws → f78_3 (.pointer (some ⟨bv, 0, none⟩)) (.int .i64 nid) (.slice q.a q.n q.c) x' (.bool b') (.int .i64 i) (fun y5 y6 y7 w2_1 => lI ll.length (inv3 fun i x y z wr => Mk2 w (i + (match y with | .bool b => b2n b | _ => 0)) x wr ∧ (∃ b, y = .bool b) ∧ z = .int .i64 i) (y5, y6, y7, w2_1) ∧ lM ll.length (inv3 fun i x y z wr => Mk2 w (i + (match y with | .bool b => b2n b | _ => 0)) x wr ∧ (∃ b, y = .bool b) ∧ z = .int .i64 i) (y5, y6, y7, w2_1) < lM ll.length (inv3 fun i x y z wr => Mk2 w (i + (match y with | .bool b => b2n b | _ => 0)) x wr ∧ (∃ b, y = .bool b) ∧ z = .int .i64 i) (x, .bool b, .int .i64 i, wr)) (fun v w' => V14 L (n + 1) bv (newB w w' U) w' ∧ Mod (fun k => k = bv) w w') ws := by
   intro b' x' ws hk
   have hms : Same w ws := by obtain ⟨_, _, _, _, h⟩ := hk; exact h
   have hb1' : b2n b' ≤ 1 := by unfold b2n; split <;> omega
   unfold f78_3
   refine kN_at ?_
   refine kfld_of ?_
   refine kld_at (hms.get h1 (fun h => h)) rfl ?_
   refine kixldN_of (F := R14.cells) (sz := 2) (fun _ => rfl) (by omega) (h3.same hms) hlt rfl ?_
   refine hk.app (by omega) _ fun y wt hy => ?_
   unfold f78_4
   refine add_at (by omega) (by omega) ?_
   rw [cast_succ]
   exact hJ _ _ _ _ hlt ⟨hy.more (by show _ ≤ i + 1 + b2n b'; omega), ⟨b', rfl⟩, rfl⟩
  have mid : ∀ bb : Bool, b = false → f78_2 (.pointer (some ⟨bv, 0, none⟩)) (.int .i64 nid) (.slice q.a q.n q.c) x (.bool b) (.int .i64 i) (.bool bb) (fun y5 y6 y7 w2_1 => lI ll.length (inv3 fun i x y z wr => Mk2 w (i + (match y with | .bool b => b2n b | _ => 0)) x wr ∧ (∃ b, y = .bool b) ∧ z = .int .i64 i) (y5, y6, y7, w2_1) ∧ lM ll.length (inv3 fun i x y z wr => Mk2 w (i + (match y with | .bool b => b2n b | _ => 0)) x wr ∧ (∃ b, y = .bool b) ∧ z = .int .i64 i) (y5, y6, y7, w2_1) < lM ll.length (inv3 fun i x y z wr => Mk2 w (i + (match y with | .bool b => b2n b | _ => 0)) x wr ∧ (∃ b, y = .bool b) ∧ z = .int .i64 i) (x, .bool b, .int .i64 i, wr)) (fun v w' => V14 L (n + 1) bv (newB w w' U) w' ∧ Mod (fun k => k = bv) w w') wr := by
   intro bb hb
   subst hb
   unfold f78_2
   refine kB_at ?_
   refine kIf_of (fun _ => ?_) (fun _ => last false _ _ hMk)
   refine kbld_of (cs := (⟨nid, q.a, q.n, q.c⟩ : R14).cells) rfl ?_
   exact hMk.app (by omega) ⟨nid, q.a, q.n, q.c⟩ fun y wt hy => last true _ _ hy
  unfold f78_1
  refine not_at ?_
  refine kB_at ?_
  refine kIf_of (fun hb => ?_) (fun hb => ?_)
  ·have hb : b = false := by simpa using hb
   refine kN_at ?_
   refine kfld_of ?_
   refine kld_at hbr rfl ?_
   refine kixfld_of (F := R14.cells) (sz := 2) (fun _ => rfl) (j := 0) (h3.same hmr) hlt rfl rfl ?_
   refine gtr_at ?_
   exact mid _ hb
  ·have hb : b = true := by simpa using hb
   subst hb
   unfold f78_2
   refine kB_at ?_
   refine kIf_F rfl ?_
   exact last true _ _ hMk
 ·have hi' : i = ll.length := by omega
  subst hi'
  have fin : ∀ (x' : Value) (ws : World), Mk2 w (ll.length + 1) x' ws → f78_6 (.pointer (some ⟨bv, 0, none⟩)) x' (fun v w' => V14 L (n + 1) bv (newB w w' U) w' ∧ Mod (fun k => k = bv) w w') ws := by
   intro x' ws hk
   obtain ⟨P, k1, k2, k3, k4⟩ := hk
   obtain ⟨a', n', c', rfl, hsl, _⟩ := k1.is
   have hn' : n' = P.length := by
    have := hsl.1
    rw [flat_len R14.cells 2 (fun _ => rfl)] at this
    omega
   subst hn'
   have hbv := hU bv hU8
   unfold f78_6
   refine kN_at ?_
   refine kfld_of ?_
   refine kst1_of (k4.get h1 (fun h => h)) rfl rfl (by show 3 < 10; omega) fun w38 h38 hs38 hb38 => ?_
   have hne : ∀ k f, a' = some ⟨k, f, none⟩ → w.heap.size ≤ k ∧ k < ws.heap.size := fun k f e => by
    have hv : vblk (.slice a' P.length c') k := ⟨f, _, _, by rw [e]⟩
    exact ⟨k3 k hv, k1.vblk_lt hv⟩
   have hz := h38.size
   exact ⟨⟨⟨a, cp, rv, a', P, c', mo, fr, nx, sd, gs, hb38, (h2.same k4).mod h38 (fun k f e => (h6 k f e).2), hsl.mod h38 (fun k f e hk => by have := (hne k f e).1; omega), by omega, h5, fun k f e => ⟨.inl (h6 k f e).1, (h6 k f e).2⟩, fun k f e => ⟨.inr ⟨(hne k f e).1, by have := (hne k f e).2; omega⟩, by have := (hne k f e).1; omega⟩⟩, .inl hU8⟩, (Mod.of_same k4).trans h38⟩
  unfold f78_5
  refine not_at ?_
  refine kB_at ?_
  refine kIf_of (fun hb => ?_) (fun hb => ?_)
  ·have hb : b = false := by simpa using hb
   subst hb
   refine kbld_of (cs := (⟨nid, q.a, q.n, q.c⟩ : R14).cells) rfl ?_
   exact hMk.app (by omega) ⟨nid, q.a, q.n, q.c⟩ fun y wt hy => fin _ _ (hy.more (by show ll.length + 0 + 1 ≤ _; omega))
  ·exact fin _ _ (hMk.more (by omega))
theorem r14Spawn (h : V14 L n bv U w) (hG : GoodSc L) (hU : ∀ k, U k → k < w.heap.size) (hn : n ≤ 100) {a : Option Addr} {P : List Part} {cp : Nat} (hs : SlIs w a P.length 6 (P.flatMap Part.cells)) (hP : P.length ≤ 64) : Meets Tryz.prog 39 #[.pointer (some ⟨bv, 0, none⟩), .slice a P.length cp] w fun v w' => V14 L (n + 1) bv (newB w w' U) w' ∧ Mod (fun k => k = bv) w w' := by
 have same : ∀ {ws : World}, Same w ws → V14 L (n + 1) bv (newB w ws U) ws ∧ Mod (fun k => k = bv) w ws := fun m => ⟨(h.same m).weak (fun k hk => .inl hk) (Nat.le_succ n), Mod.of_same m⟩
 refine f39_ok ?_
 unfold f39
 refine kcall_of (r14Gathered h hG hs hP) ?_
 rintro v w2 ⟨⟨a', n', c', e, rfl⟩, h2⟩
 refine kext_at rfl ?_
 refine kext_at rfl ?_
 refine neq_at ?_
 refine kB_at ?_
 refine kIf_dec (fun _ => same h2) (fun _ => ?_)
 have m2 : Same w w2.drew := h2.drew
 have go : ∀ bb : Bool, f39_1 (.pointer (some ⟨bv, 0, none⟩)) (.slice a' n' c') (.bool bb) (fun v w' => V14 L (n + 1) bv (newB w w' U) w' ∧ Mod (fun k => k = bv) w w') w2.drew := by
  intro bb
  generalize w2.drew = wd at *
  unfold f39_1
  refine kB_at ?_
  refine kIf_of (fun _ => same m2) (fun _ => ?_)
  have hd := h.same m2
  obtain ⟨⟨a, cp, rv, la, ll, lc, mo, fr, nx, sd, gs, hb, _⟩, _⟩ := id hd
  unfold f39_2
  refine kN_at ?_
  refine kfld_of ?_
  refine kld_at hb rfl ?_
  refine kN_at ?_
  refine kfld_of ?_
  refine kld_at hb rfl ?_
  refine kbld_of (cs := [.int .i64 7, .int .i64 0, .int .i64 0, .int .i64 0, .int .i64 0, .int .i64 0, .int .i64 0, .int .i64 0, .slice none 0 0, .int .i64 0, .int .i64 nx]) rfl ?_
  refine kcall_of (r14Note hd _) ?_
  rintro v w23 h23
  refine kbld_of (cs := [.int .i64 2, .int .i64 nx, .int .i64 0, .int .i64 0, .int .i64 0, .int .i64 0, .int .i64 0, .int .i64 0, .slice none 0 0, .int .i64 0, .int .i64 0]) rfl ?_
  refine kcall_of (r14Note (hd.same h23) _) ?_
  rintro v w26 h26
  have m26 := m2.trans (h23.trans h26)
  obtain ⟨⟨a, cp, rv, la, ll, lc, mo, fr, nx', sd, gs, h1, g2, g3, g4, g5, g6, g7⟩, g8⟩ := h.same m26
  refine kN_at ?_
  refine kfld_of ?_
  refine kld_at h1 rfl ?_
  rw [kint_add]
  refine kN_at ?_
  refine kfld_of ?_
  refine kst1_of h1 rfl rfl (by show 5 < 10; omega) fun w31 h31 hs31 hb31 => ?_
  have hm31 : Mod (fun k => k = bv) w w31 := (Mod.of_same m26).trans h31
  have h31' : V14 L n bv U w31 := ⟨⟨a, cp, rv, la, ll, lc, mo, fr, _, sd, gs, hb31, g2.mod h31 (fun k f e => (g6 k f e).2), g3.mod h31 (fun k f e => (g7 k f e).2), g4, g5, g6, g7⟩, g8⟩
  refine kcall_of (r14Add h31' (fun k hk => Nat.lt_of_lt_of_le (hU k hk) hm31.size) hn nx ⟨0, a', n', c'⟩) ?_
  rintro v w33 ⟨hv, hm⟩
  have hz := hm31.size
  exact ⟨hv.weak (fun k hk => hk.imp id fun hk => ⟨by omega, hk.2⟩) (Nat.le_refl _), hm31.trans hm⟩
 obtain ⟨⟨a, cp, rv, la, ll, lc, mo, fr, nx, sd, gs, hb, _⟩, _⟩ := h.same m2
 unfold f39_0
 refine kN_at ?_
 refine kfld_of ?_
 refine kld_at hb rfl ?_
 refine kG_of rfl ?_
 refine klen_at ?_
 refine kN_at ?_
 refine kfld_of ?_
 refine kld_at hb rfl ?_
 refine kG_of rfl ?_
 refine geq_at ?_
 refine kB_at ?_
 refine kIf_ndec (fun _ => ?_) (fun _ => go true)
 refine kN_at ?_
 refine kfld_of ?_
 refine kld_at hb rfl ?_
 refine kG_of rfl ?_
 refine gtr_at ?_
 exact go _
end
end
section
attribute [local irreducible] kO kB kStr kInt kN kG kIf kfld kld kldN kst knew kmap kbld kbldS kext kcnv klenStr klen kcap kprt kprtN kbool kint kstr keq kun ksl kix kiv kta kmk kmm ksem ksemU kextf kcallV kcallM kcall kL
section
variable {L : List Comp} {w : World} {a : Option Addr} {cp : Nat} {ra : Option Addr} {R : List ResM} {rc : Nat}
theorem r15New (hs : SlIs w a L.length 7 (L.flatMap Comp.cells)) (hG : GoodSc L) (hL10 : L.length ≤ 10) (hr : SlIs w ra R.length 2 (R.flatMap ResM.cells)) (hGR : GoodR L R) (many : Nat) (hm : many ≤ 64) :
  Meets Tryz.prog 35 #[scV a L.length cp (.slice ra R.length rc), .int .i64 many] w fun v w' => (∃ b, v = .pointer b) ∧ Same w w' := by
 have hck := fun w2 (m : Same w w2) => refCheck (cp := cp) (rc := rc) (hs.same m) hG hL10 (hr.same m) hGR
 rw [scV] at hck ⊢
 refine f35_ok ?_
 unfold f35
 refine knew_of fun w2 h2 hs2 hb2 => ?_
 have hb2 : blk w2 w.heap.size = some (.cells #[.slice a L.length cp, .slice ra R.length rc] 25) := hb2
 refine kldN_at hb2 rfl (by omega) ?_
 refine kcall_of (hck w2 h2) ?_
 rintro v w5 ⟨⟨b, rfl⟩, h5⟩
 refine klen_at ?_
 refine gtr_at ?_
 refine kB_at ?_
 refine kIf_T rfl ?_
 refine lss_at ?_
 refine kB_at ?_
 refine kIf_ndec (fun _ => ?_) (fun h => absurd h (by omega))
 refine gtr_at ?_
 rw [decF (by omega)]
 unfold f35_0
 refine kB_at ?_
 refine kIf_F rfl ?_
 unfold f35_1
 refine kldN_at (h5.get hb2 (fun h => h)) rfl (by omega) ?_
 refine kbld_of (cs := [.slice a L.length cp, .slice ra R.length rc, .int .i64 many, .slice none 0 0, .int .i64 0, .int .i64 0]) rfl ?_
 refine knew_of fun w16 h16 hs16 hb16 => ?_
 exact ⟨⟨_, rfl⟩, (h2.trans h5).trans h16⟩
theorem r14New (hs : SlIs w a L.length 7 (L.flatMap Comp.cells)) (hG : GoodSc L) (h0 : 0 < L.length) (hL10 : L.length ≤ 10) (hr : SlIs w ra R.length 2 (R.flatMap ResM.cells)) (hGR : GoodR L R) {lo : Nat} (hlo : lo ≤ w.heap.size) (hfa : ∀ k f, a = some ⟨k, f, none⟩ → lo ≤ k) (many : Nat) (hm : many ≤ 64) (seed : Int) :
  Meets Tryz.prog 34 #[scV a L.length cp (.slice ra R.length rc), .int .i64 many, .int .i64 seed] w fun v w' => ∃ bv, v = .pointer (some ⟨bv, 0, none⟩) ∧ V14 L 0 bv (fun k => lo ≤ k ∧ k < w'.heap.size) w' ∧ Same w w' := by
 have hlR := hGR.len
 have hck := fun w2 (m : Same w w2) => refCheck (cp := cp) (rc := rc) (hs.same m) hG hL10 (hr.same m) hGR
 rw [scV] at hck ⊢
 refine f34_ok ?_
 unfold f34
 refine knew_of fun w2 h2 hs2 hb2 => ?_
 have hb2 : blk w2 w.heap.size = some (.cells #[.slice a L.length cp, .slice ra R.length rc] 25) := hb2
 refine kldN_at hb2 rfl (by omega) ?_
 refine kcall_of (hck w2 h2) ?_
 rintro v w5 ⟨⟨b, rfl⟩, h5⟩
 have hb5 := h5.get hb2 (fun h => h)
 have m5 := h2.trans h5
 refine klen_at ?_
 refine gtr_at ?_
 refine kB_at ?_
 refine kIf_T rfl ?_
 refine lss_at ?_
 refine kB_at ?_
 refine kIf_ndec (fun _ => ?_) (fun h => absurd h (by omega))
 refine gtr_at ?_
 rw [decF (by omega)]
 unfold f34_0
 refine kB_at ?_
 refine kIf_F rfl ?_
 unfold f34_1
 refine kldN_at hb5 rfl (by omega) ?_
 refine kbld_of (cs := [.slice a L.length cp, .slice ra R.length rc, .int .i64 many, .slice none 0 0, .int .i64 0, .int .i64 1, .int .i64 seed, .slice none 0 0, .slice none 0 0, .bool false]) rfl ?_
 refine knew_of fun w16 h16 hs16 hb16 => ?_
 have m16 := m5.trans h16
 have hz5 := m5.size
 refine kL1_of R.length (fun i x wr => x = .int .i64 i ∧ ∃ gs, blk wr w5.heap.size = some (.cells #[.slice a L.length cp, .slice ra R.length rc, .int .i64 many, .slice none 0 0, .int .i64 0, .int .i64 1, .int .i64 seed, gs, .slice none 0 0, .bool false] 169) ∧ Own wr gs 1 (((R.take i).map (·.value)).map (Value.int .i64)) ∧ (∀ k, vblk gs k → w16.heap.size ≤ k) ∧ Same w wr ∧ blk wr w.heap.size = some (.cells #[.slice a L.length cp, .slice ra R.length rc] 25) ∧ w16.heap.size ≤ wr.heap.size) ⟨lI1_0 ⟨rfl, _, hb16, Own.nil _ _, (fun k hk => absurd hk (nvn k)), m16, h16.get hb5 (fun h => h), Nat.le_refl _⟩, fun x wr hx => ?_⟩
 obtain ⟨i, hi, ⟨rfl, gs, hbg, hO, hgk, hwr, hsc, hzr⟩, hJ⟩ := lI1_step hx
 unfold f34_2
 refine kfld_of ?_
 refine kld_at hsc rfl ?_
 refine klen_at ?_
 refine lss_at ?_
 refine kB_at ?_
 refine kIf_dec (fun hlt => ?_) (fun hge => ?_)
 ·have hlt : i < R.length := by omega
  have htk : ((R.take (i + 1)).map (·.value)).map (Value.int .i64) = ((R.take i).map (·.value)).map (Value.int .i64) ++ [.int .i64 (R[i]).value] := by
   rw [List.take_succ_eq_append_getElem hlt, List.map_append, List.map_append]; rfl
  have hlo' : (((R.take i).map (·.value)).map (Value.int .i64)).length = i := by
   rw [List.length_map, List.length_map, List.length_take]; omega
  unfold f34_3
  have md : Same wr wr.drew := (Mod.refl (fun _ => False) _).drew
  have hbd := md.get hbg (fun h => h)
  have hsd := md.get hsc (fun h => h)
  have hOd := hO.same md
  have mrd := hwr.trans md
  have hzd := md.size
  generalize wr.drew = wd at *
  refine kN_at ?_
  refine kfld_of ?_
  refine kld_of (v := gs) hbd rfl ?_
  refine kG_of rfl ?_
  refine kfld_of ?_
  refine kld_at hsd rfl ?_
  refine kG_of rfl ?_
  refine kixfld_of (F := ResM.cells) (sz := 2) (fun _ => rfl) (j := 1) (hr.same mrd) hlt rfl rfl ?_
  refine kG_of rfl ?_
  refine kbldS_of (cs := [.int .i64 (R[i]).value]) rfl fun w36 h36 hs36 hb36 => ?_
  refine kG_of (kld_of (v := gs) (h36.get hbd (fun h => h)) rfl ⟨rfl, rfl⟩) ?_
  refine ksem_append apNums (by omega) (hOd.same h36) (Src.ofSlIs (hk := slNums_is.choose_spec) 1 (SlIs.blk hb36 rfl) rfl) (by rw [hlo']; simp; omega) (by rw [hlo']; simp; omega) ?_
  intro v' w38 hO38 m38 hf38
  have hgk2 : ∀ k, vblk v' k → w16.heap.size ≤ k := fun k hk => by
   rcases hf38 k hk with h | h
   ·exact hgk k h
   ·have := h36.size; omega
  have hlt16 : w5.heap.size < w16.heap.size := lt_of_blk hb16
  have hltw : w.heap.size < w16.heap.size := lt_of_blk (h16.get hb5 (fun h => h))
  have hg38 := m38.get (h36.get hbd (fun h => h)) (fun hk => by have := hgk _ hk; omega)
  have hs38 := m38.get (h36.get hsd (fun h => h)) (fun hk => by have := hgk _ hk; omega)
  obtain ⟨av, nv, cv, rfl, _, _⟩ := hO38.is
  refine kN_at ?_
  refine kfld_of ?_
  refine kst1_of hg38 rfl rfl (by show 7 < 10; omega) fun w40 h40 hs40 hb40 => ?_
  have hb40 : blk w40 w5.heap.size = some (.cells #[.slice a L.length cp, .slice ra R.length rc, .int .i64 many, .slice none 0 0, .int .i64 0, .int .i64 1, .int .i64 seed, .slice av nv cv, .slice none 0 0, .bool false] 169) := hb40
  unfold f34_4
  refine add_at (by omega) (by omega) ?_
  rw [cast_succ]
  have hz38 := m38.size
  have hz36 := h36.size
  refine hJ _ _ hlt ⟨rfl, .slice av nv cv, hb40, ?_, hgk2, ?_, h40.get hs38 (fun e => by have := lt_of_blk hb2; have := h5.size; omega), by omega⟩
  ·rw [htk]
   exact hO38.mod h40 fun k hk e => by have := hgk2 k hk; omega
  ·exact (mrd.trans h36).trans' ((m38.mono fun k _ e => .inr (by have := hgk k e; omega)).trans (h40.mono fun k _ e => .inr (by omega)))
 ·have : w5.heap.size < w16.heap.size := lt_of_blk hb16
  exact ⟨_, rfl, ⟨⟨a, cp, _, none, [], 0, many, 0, 1, seed, gs, hbg, hs.same hwr, SlIs.nil _ _ _, Nat.le_refl _, rfl, fun k f e => ⟨⟨hfa k f e, by have := sl_lt hs h0 (by omega) k f e; omega⟩, by have := sl_lt hs h0 (by omega) k f e; omega⟩, fun k f e => by cases e⟩, ⟨by omega, by omega⟩⟩, hwr⟩
end
theorem apCo17 : appT Tryz.prog 22 7 64 = true := by kernel_rfl
theorem slCo17_is : ∃ e, Tryz.prog.underlying 22 = some (.slice e) := slT_of (by kernel_rfl)
structure Plain (lo : Nat) (w : World) (v : Value) : Prop where
 ex : ∃ a cp ra rc, v = scV a plainC.length cp (.slice ra plainR.length rc) ∧ SlIs w a plainC.length 7 (plainC.flatMap Comp.cells) ∧ SlIs w ra plainR.length 2 (plainR.flatMap ResM.cells) ∧ ∀ k f, a = some ⟨k, f, none⟩ → lo ≤ k
theorem plain_spec (w : World) : Meets Tryz.prog 16 #[] w fun v w' => Plain w.heap.size w' v ∧ Same w w' := by
 have hp2 : plainR.length = 2 := rfl
 refine f16_ok ?_
 unfold f16
 refine knew_of fun w2 h2 hs2 hb2 => ?_
 refine kbld_of (cs := (⟨⟨#[115]⟩, 5⟩ : ResM).cells) rfl ?_
 refine kbld_of (cs := (⟨⟨#[116]⟩, 0⟩ : ResM).cells) rfl ?_
 refine kbldS_of (cs := plainR.flatMap ResM.cells) rfl fun w6 h6 hs6 hb6 => ?_
 refine kbld_of (cs := [.slice none 0 0, .slice (some ⟨w2.heap.size, 0, none⟩) 2 2]) rfl ?_
 refine knew_of fun w9 h9 hs9 hb9 => ?_
 refine kst_of (vs := [.slice none 0 0, .slice (some ⟨w2.heap.size, 0, none⟩) 2 2]) hb9 rfl rfl rfl (by simp) (by simp) fun w10 h10 hs10 hb10 => ?_
 have hb10 : blk w10 w6.heap.size = some (.cells #[.slice none 0 0, .slice (some ⟨w2.heap.size, 0, none⟩) 2 2] 25) := hb10
 have m10 : Same w6 w10 := h9.trans' (h10.mono fun k _ e => .inr (by omega))
 have mw := (h2.trans h6).trans m10
 have hr10 : SlIs w10 (some ⟨w2.heap.size, 0, none⟩) plainR.length 2 (plainR.flatMap ResM.cells) := (SlIs.blk hb6 rfl).same m10
 have hb210 := (h6.trans m10).get hb2 (fun h => h)
 have hz2 := h2.size
 have hz6 := h6.size
 have hz10 := m10.size
 have hl2 := lt_of_blk hb2
 have hl6 := lt_of_blk hb6
 have hl10 := lt_of_blk hb10
 clear h9 hb9 h10 hs10
 refine kL1_of 4 (fun j x wr => x = .int .i64 j ∧ ∃ va, blk wr w6.heap.size = some (.cells #[va, .slice (some ⟨w2.heap.size, 0, none⟩) 2 2] 25) ∧ Own wr va 7 ((plainC.take j).flatMap Comp.cells) ∧ (∀ k, vblk va k → w10.heap.size ≤ k) ∧ Mod (fun k => k = w6.heap.size) w10 wr) ⟨lI1_0 ⟨rfl, _, hb10, Own.nil _ _, (fun k hk => absurd hk (nvn k)), Mod.refl _ _⟩, fun x wr hx => ?_⟩
 obtain ⟨j, hj, ⟨rfl, va, hbv, hO, hva, hm⟩, hJ⟩ := lI1_step hx
 have hzr := hm.size
 unfold f16_0
 refine lss_at ?_
 refine kB_at ?_
 refine kIf_dec (fun hlt => ?_) (fun hge => ?_)
 ·have hlt : j < 4 := by omega
  have hpl : plainC.length = 4 := rfl
  have htk : (plainC.take (j + 1)).flatMap Comp.cells = (plainC.take j).flatMap Comp.cells ++ (plainQ j).cells := by
   rw [List.take_succ_eq_append_getElem (by omega), List.flatMap_append]
   congr 1
   rw [List.flatMap_singleton]
   congr 1
   unfold plainC
   rw [List.getElem_map, List.getElem_range]
  have hlen : ((plainC.take j).flatMap Comp.cells).length = j * 7 := by
   rw [flat_len Comp.cells 7 (fun _ => rfl), List.length_take]
   rw [Nat.min_eq_left (by omega)]
  unfold f16_1
  have md : Same wr wr.drew := (Mod.refl (fun _ => False) _).drew
  have hbd := md.get hbv (fun h => h)
  have hOd := hO.same md
  have hmd := hm.trans (Mod.of_same md)
  have hzd := md.size
  generalize wr.drew = wd at *
  refine kfld_of ?_
  refine kld_of (v := va) hbd rfl ?_
  refine kG_of rfl ?_
  refine add_at (by omega) (by omega) ?_
  rw [ksl_string rfl rfl]
  refine kG_of ?_ ?_
  ·simp only [loV_int, hiV_int]
   exact ⟨by omega, by omega, by show (j : Int) + 1 ≤ 4; omega⟩
  simp only [loV_int, hiV_int]
  rw [show ((j : Int)).toNat = j from Int.toNat_natCast j, show ((j : Int) + 1).toNat = j + 1 by omega, plain_str j hlt]
  refine add_at (by omega) (by omega) ?_
  refine lss_at ?_
  refine kbld_of (cs := [.int .i64 j, .int .i64 0, .int .i64 0, .int .i64 0]) rfl ?_
  have hq : (plainQ j).cells = [.string ⟨#[UInt8.ofNat (97 + j)]⟩, .int .i64 (1 + (j : Int)), .bool (decide ((j : Int) < 3)), .int .i64 j, .int .i64 0, .int .i64 0, .int .i64 0] := by
   have e1 : ((1 + j : Nat) : Int) = 1 + (j : Int) := by omega
   have e2 : decide (j < 3) = decide ((j : Int) < 3) := by
    by_cases h : j < 3
    ·rw [decide_eq_true h, decide_eq_true (by omega)]
    ·rw [decide_eq_false h, decide_eq_false (by omega)]
   show [Value.string ⟨#[UInt8.ofNat (97 + j)]⟩, .int .i64 ((1 + j : Nat) : Int), .bool (decide (j < 3)), .int .i64 j, .int .i64 0, .int .i64 0, .int .i64 0] = _
   rw [e1, e2]
  refine kbld_of (cs := (plainQ j).cells) (by rw [hq]; rfl) ?_
  refine kbldS_of (cs := (plainQ j).cells) rfl fun w21 h21 hs21 hb21 => ?_
  have hbd21 := h21.get hbd (fun h => h)
  refine kG_of (kld_of (v := va) hbd21 rfl ⟨rfl, rfl⟩) ?_
  refine ksem_append apCo17 (by omega) (hOd.same h21) (Src.ofSlIs (hk := slCo17_is.choose_spec) 1 (SlIs.blk hb21 rfl) rfl) (by rw [hlen]; show j * 7 + 7 ≤ _; omega) (by rw [hlen]; show _; simp [Comp.cells]; omega) ?_
  intro v' w23 ho23 hm23 hf23
  have hb23 := hm23.get hbd21 (fun hk => by have := hva _ hk; omega)
  have hv' : ∀ k, vblk v' k → w10.heap.size ≤ k := fun k hk => by
   rcases hf23 k hk with h | h
   ·exact hva k h
   ·have := h21.size; omega
  obtain ⟨a', n', c', rfl, _, _⟩ := ho23.is
  refine kfld_of ?_
  refine kst1_of hb23 rfl rfl (by show 0 < 2; omega) fun w25 h25 hs25 hb25 => ?_
  have hb25 : blk w25 w6.heap.size = some (.cells #[.slice a' n' c', .slice (some ⟨w2.heap.size, 0, none⟩) 2 2] 25) := hb25
  unfold f16_2
  refine add_at (by omega) (by omega) ?_
  rw [cast_succ]
  refine hJ _ _ hlt ⟨rfl, .slice a' n' c', hb25, ?_, hv', ?_⟩
  ·rw [htk]
   exact ho23.mod h25 fun k hk e => by have := hv' k hk; omega
  ·exact (hmd.trans (Mod.of_same h21)).trans' ((hm23.mono fun k _ e => .inr (hva k e)).trans (h25.mono fun k _ e => .inl e))
 ·have hj4 : j = 4 := by omega
  subst hj4
  obtain ⟨a', n', c', rfl, hsl, _⟩ := hO.is
  have hn' : n' = plainC.length := by
   have := hsl.1
   rw [flat_len Comp.cells 7 (fun _ => rfl)] at this
   have : (plainC.take 4).length = 4 := rfl
   have : plainC.length = 4 := rfl
   omega
  subst hn'
  unfold f16_3
  refine kldN_at hbv rfl (by omega) ?_
  refine kst_of (vs := [.slice a' plainC.length c', .slice (some ⟨w2.heap.size, 0, none⟩) 2 2]) (hm.get hb210 (by omega)) rfl rfl rfl (by simp) (by simp) fun w29 h29 hs29 hb29 => ?_
  have hb29 : blk w29 w.heap.size = some (.cells #[.slice a' plainC.length c', .slice (some ⟨w2.heap.size, 0, none⟩) 2 2] 25) := hb29
  refine kldN_at hb29 rfl (by omega) ?_
  have hla : ∀ k f, a' = some ⟨k, f, none⟩ → w10.heap.size ≤ k := fun k f e => hva k ⟨f, _, _, by rw [e]⟩
  refine ⟨⟨a', c', _, _, rfl, hsl.mod h29 (fun k f e hk => by have := hla k f e; omega), (hr10.mod hm (fun k f e hk => by cases e; omega)).mod h29 (fun k f e hk => by cases e; omega), fun k f e => by have := hla k f e; omega⟩, ?_⟩
  exact mw.trans' ((hm.mono fun k _ e => .inr (by omega)).trans (h29.mono fun k _ e => .inr (by omega)))
end
section
def partM (i c : Nat) : Part := ⟨(c : Int), ((10 * i + c : Nat) : Int), 0, 0, 0, 0⟩
def partsM (i m j : Nat) : List Part := ((List.range j).filter fun c => decide (m / 2 ^ c % 2 = 1)).map (partM i)
def laidV (M : List Nat) (n : Nat) : ViewT := (List.range n).map fun i => (i + 1, partsM i (M.getD i 0) 4)
theorem partsM_succ (i m j : Nat) : partsM i m (j + 1) = if m / 2 ^ j % 2 = 1 then partsM i m j ++ [partM i j] else partsM i m j := by
 unfold partsM
 rw [List.range_succ, List.filter_append, List.map_append]
 by_cases h : m / 2 ^ j % 2 = 1
 ·rw [if_pos h, List.filter_cons_of_pos (by simpa using h)]; rfl
 ·rw [if_neg h, List.filter_cons_of_neg (by simpa using h)]; simp
theorem laidV_succ (M : List Nat) (n : Nat) : laidV M (n + 1) = laidV M n ++ [(n + 1, partsM n (M.getD n 0) 4)] := by
 unfold laidV
 rw [List.range_succ, List.map_append]; rfl
theorem laidV_len (M : List Nat) (n : Nat) : (laidV M n).length = n := by unfold laidV; rw [List.length_map, List.length_range]
theorem partsM_mem {i m j : Nat} {q : Part} (h : q ∈ partsM i m j) : ∃ c, c < j ∧ q = partM i c := by
 obtain ⟨c, hc, rfl⟩ := List.mem_map.1 h
 exact ⟨c, by simpa using (List.mem_filter.1 hc).1, rfl⟩
theorem partsM_len (i m j : Nat) : (partsM i m j).length ≤ j := by
 unfold partsM
 rw [List.length_map]
 exact Nat.le_trans (List.length_filter_le _ _) (by simp)
theorem partsM_fits {i m : Nat} : ∀ q ∈ partsM i m 4, FitsP plainC q := by
 intro q hq
 obtain ⟨c, hc, rfl⟩ := partsM_mem hq
 refine ⟨c, rfl, hc, ?_⟩
 have h : c = 0 ∨ c = 1 ∨ c = 2 ∨ c = 3 := by omega
 rcases h with rfl | rfl | rfl | rfl <;> intro x hx <;> simp [Part.vals, partM, wdF, plainC, plainQ] at hx <;> first | exact hx | simp_all
theorem partsM_comps (i m j : Nat) : (partsM i m j).map (·.comp) = ((List.range j).filter fun c => decide (m / 2 ^ c % 2 = 1)).map fun c : Nat => (c : Int) := by
 unfold partsM
 rw [List.map_map]; rfl
theorem range_asc (j : Nat) : (List.range j).Pairwise (· < ·) := by
 rw [List.pairwise_iff_getElem]
 intro a b ha hb hab
 rw [List.getElem_range, List.getElem_range]; exact hab
theorem partsM_once (i m j : Nat) : NoTwice (partsM i m j) := by
 unfold NoTwice
 rw [partsM_comps]
 refine List.pairwise_map.2 (List.Pairwise.imp ?_ ((range_asc j).filter _))
 intro a b hab e
 omega
theorem partsM_sort (i m j : Nat) : SortP (partsM i m j) := by
 unfold SortP partsM
 refine List.pairwise_map.2 (List.Pairwise.imp ?_ ((range_asc j).filter _))
 intro a b hab
 show (a : Int) ≤ (b : Int)
 omega
theorem partsM_ok {i m j : Nat} (hi : i ≤ 1000000) (hj : j ≤ 4) : ∀ q ∈ partsM i m j, q.ok := by
 intro q hq
 obtain ⟨c, hc, rfl⟩ := partsM_mem hq
 unfold Part.ok partM I64
 simp
 omega
theorem laidV_ok (M : List Nat) {n : Nat} (hn : n ≤ 1000000) : okV (laidV M n) := by
 intro y hy q hq
 obtain ⟨i, hi, rfl⟩ := List.mem_map.1 hy
 have hi : i < n := by simpa using hi
 exact partsM_ok (by omega) (by omega) q hq
section
variable {c : WC} {w0 : World} {o : OC} {X : Nat → Prop} {w w' : World} {S : SM} {t : Nat} {B : BdM} {l : List OrdM} {gv dr : Nat}
theorem pTick (h : Pair c w0 o X w S t B l gv dr) (hap : ∀ k, X k → ¬ c.mine k) (hf : 0 ≤ c.frame) (hlt : c.frame < 1073741824) :
  Meets Tryz.prog 36 #[.pointer (some ⟨c.bw, 0, none⟩)] w fun v w' => v = .nilIface ∧ Pair (c.tune c.R (c.frame + 1) c.seed c.gn) w0 o X w' S t B l gv dr ∧ Mod (fun k => w0.heap.size ≤ k ∧ ¬ X k) w w' := by
 obtain ⟨⟨fx, U, hW, hO, hU, hX⟩, h0⟩ := h
 refine (wTick hW hf hlt).mono ?_
 rintro v w' ⟨rfl, hW', hm⟩
 exact ⟨rfl, Pair.tune (c := c) h0 hO hU hX hap rfl hW' hm⟩
theorem pSpawn {pr : Nat → Prop} {Sa : Nat → Addr} (hL : LaidP pr Sa w0) (h6 : pr 6) (hD : DeAt w0) (h : Pair c w0 o X w S t B l gv dr) (ht : t ≤ 10000) (hnx : B.nx ≤ 1000000)
  {P : List Part} {a : Option Addr} {cp : Nat} (hs : SlIs w a P.length 6 (P.flatMap Part.cells)) (hfa : ∀ k f, a = some ⟨k, f, none⟩ → X k) (hn : P.length ≤ 64) (hf : ∀ q ∈ P, FitsP c.L q) (hnt : NoTwice P) (hso : SortP P) (hlt : (viewS S B).length < S.gens.length) :
  Meets Tryz.prog 38 #[.pointer (some ⟨c.bw, 0, none⟩), .slice a P.length cp] w fun v w' => v = .tuple #[natV B.nx, .nilIface] ∧ ∃ S' B', viewS S' B' = viewS S B ++ [(B.nx, P)] ∧ B'.nx = B.nx + 1 ∧ S'.gens.length = S.gens.length ∧ Pair c w0 o X w' S' (t + 1) B' l gv dr ∧ Mod (fun k => w0.heap.size ≤ k ∧ ¬ X k) w w' := by
 obtain ⟨⟨fx, U, hW, hO, hU, hX⟩, h0⟩ := h
 refine (wSpawn_ok hL h6 hD hW ht hnx hs (fun k f e => hX k (hfa k f e)) hn hf hnt hso hlt).mono ?_
 rintro v w' ⟨rfl, S', B', hW', hg, hm, hv, hn⟩
 exact ⟨rfl, S', B', hv, hn, hg, Pair.act h0 hO hU hX hW' hm⟩
theorem Pair.gens (h : Pair c w0 o X w S t B l gv dr) : B.l.length ≤ 64 := by
 obtain ⟨⟨fx, U, hW, hO, hU, hX⟩, h0⟩ := h
 exact hW.le
end
def layC (a : Option Addr) (n cp : Nat) (i0 i1 who seed : Int) (wd og : Bool) : List Value := [.slice a n cp, .int .i64 i0, .int .i64 i1, .int .i64 who, .int .i64 seed, .bool wd, .bool og]
structure LaidI (w : World) (c : WC) (o : OC) (bh bv : Nat) (lay host : Array Value) (n m : Nat) (V : ViewT) (X : Nat → Prop) (ww : World) : Prop where
 pr : ∃ S t B, Pair c w o X ww S t B [] 0 0 ∧ viewS S B = V ∧ B.nx = n + 1 ∧ S.gens.length = 20 ∧ t ≤ n
 v : V14 plainC m bv X ww
 hx : blk ww w.heap.size = some (.cells lay 41)
 hh : blk ww bh = some (.cells host 53)
 ap : ∀ k, X k → ¬ c.mine k
 at' : w.heap.size ≠ bv ∧ bh ≠ bv ∧ X w.heap.size ∧ X bh
section
variable {w : World} {c : WC} {o : OC} {bh bv n m : Nat} {lay host : Array Value} {V : ViewT} {X : Nat → Prop} {ww wr : World}
theorem LaidI.lt (h : LaidI w c o bh bv lay host n m V X ww) {k : Nat} (hk : X k) : w.heap.size ≤ k ∧ k < ww.heap.size := by
 obtain ⟨S, t, B, hP, _⟩ := h.pr
 exact hP.lt hk
theorem LaidI.mlt (h : LaidI w c o bh bv lay host n m V X ww) {k : Nat} (hk : c.mine k) : w.heap.size ≤ k ∧ k < ww.heap.size := by
 obtain ⟨S, t, B, ⟨⟨fx, U, hW, _⟩, _⟩, _⟩ := h.pr
 exact hW.A.lt (hW.fm k hk)
theorem LaidI.same0 (h : LaidI w c o bh bv lay host n m V X ww) : Same w ww := by
 obtain ⟨S, t, B, hP, _⟩ := h.pr
 exact hP.same0
theorem LaidI.act (h : LaidI w c o bh bv lay host n m V X ww) {c' : WC} {n' : Nat} {V' : ViewT} (hc : c'.mine = c.mine) (hP : ∃ S t B, Pair c' w o X wr S t B [] 0 0 ∧ viewS S B = V' ∧ B.nx = n' + 1 ∧ S.gens.length = 20 ∧ t ≤ n') (mm : Mod (fun k => w.heap.size ≤ k ∧ ¬ X k) ww wr) : LaidI w c' o bh bv lay host n' m V' X wr :=
 ⟨hP, h.v.mod mm fun k hk hn => hn.2 hk, mm.get h.hx (fun e => e.2 h.at'.2.2.1), mm.get h.hh (fun e => e.2 h.at'.2.2.2), by rw [hc]; exact h.ap, h.at'⟩
theorem LaidI.ap' (h : LaidI w c o bh bv lay host n m V X ww) : ∀ k, newB ww wr X k → ¬ c.mine k := by
 intro k hk
 rcases hk with hk | hk
 ·exact h.ap k hk
 ·intro e
  have := (h.mlt e).2
  omega
theorem LaidI.grow (h : LaidI w c o bh bv lay host n m V X ww) (mm : Same ww wr) : LaidI w c o bh bv lay host n m V (newB ww wr X) wr := by
 obtain ⟨S, t, B, hP, h2⟩ := id h.pr
 exact ⟨⟨S, t, B, hP.grow mm fun k hk => hk.elim, h2⟩, (h.v.same mm).weak (fun k hk => .inl hk) (Nat.le_refl _), mm.get h.hx (fun h => h), mm.get h.hh (fun h => h), h.ap', ⟨h.at'.1, h.at'.2.1, .inl h.at'.2.2.1, .inl h.at'.2.2.2⟩⟩
theorem LaidI.doc (h : LaidI w c o bh bv lay host n m V X ww) {m' : Nat} (hv : V14 plainC m' bv (newB ww wr X) wr) (mm : Mod (fun k => k = bv) ww wr) : LaidI w c o bh bv lay host n m' V (newB ww wr X) wr := by
 obtain ⟨S, t, B, hP, h2⟩ := id h.pr
 have hP' := hP.grow mm fun k hk => by subst hk; exact ⟨h.v.own, h.ap _ h.v.own⟩
 exact ⟨⟨S, t, B, hP', h2⟩, hv, mm.get h.hx h.at'.1, mm.get h.hh h.at'.2.1, h.ap', ⟨h.at'.1, h.at'.2.1, .inl h.at'.2.2.1, .inl h.at'.2.2.2⟩⟩
end
end
section
attribute [local irreducible] kO kB kStr kInt kN kG kIf kfld kld kldN kst knew kmap kbld kbldS kext kcnv klenStr klen kcap kprt kprtN kbool kint kstr keq kun ksl kix kiv kta kmk kmm ksem ksemU kextf kcallV kcallM kcall kL
theorem mul_at {K : Value → Prop} {a b : Int} (h1 : -9223372036854775808 ≤ a * b) (h2 : a * b ≤ 9223372036854775807) (h : K (.int .i64 (a * b))) : kint .i64 .mul (.int .i64 a) (.int .i64 b) K := by
 rw [kint_mul, wrap_i64 h1 h2]; exact h
section
variable {w : World} {c : WC} {o : OC} {bh bv : Nat} {X : Nat → Prop} {ww wr : World}
theorem laid_parts {pr : Nat → Prop} {Sa : Nat → Addr} (hL : LaidP pr Sa w) (h6 : pr 6) (hD : DeAt w) {a : Option Addr} {cp : Nat} {M : List Nat} (hs : SlIs w a M.length 1 (M.map msk)) (hM : ∀ m ∈ M, m < 4294967296) {i0 i1 who seed : Int} {wd og : Bool} {host : Array Value} {i m : Nat} (hcL : c.L = plainC) (hi : i < M.length) (hi20 : i < 20) (hm : m ≤ 99)
  (h : LaidI w c o bh bv (layC a M.length cp i0 i1 who seed wd og).toArray host i m (laidV M i) X ww) (xo xu : Value) {J : Value → World → Prop} {Q : PQ}
  (hJ : ∀ X' w', LaidI w c o bh bv (layC a M.length cp i0 i1 who seed wd og).toArray host (i + 1) (m + 1) (laidV M (i + 1)) X' w' → J (.int .i64 ((i + 1 : Nat) : Int)) w') :
  f9_4 (.pointer (some ⟨w.heap.size, 0, none⟩)) (.pointer (some ⟨bh, 0, none⟩)) (.pointer (some ⟨c.bw, 0, none⟩)) xo (.pointer (some ⟨bv, 0, none⟩)) xu (.int .i64 i) J Q ww := by
 have h0w := h.same0
 have hMi : M.getD i 0 = M[i] := by rw [List.getD_eq_getElem?_getD, List.getElem?_eq_getElem hi]; rfl
 have hml : M[i] < 4294967296 := hM _ (List.getElem_mem hi)
 unfold f9_4
 refine kbldS_of (cs := []) rfl fun w4 h4 hs4 hb4 => ?_
 refine kL2_of 4 (fun j x y wr => y = .int .i64 j ∧ Own wr x 6 ((partsM i M[i] j).flatMap Part.cells) ∧ (∀ k, vblk x k → ww.heap.size ≤ k) ∧ Same ww wr) ⟨lI2_0 ⟨rfl, Own.blk hb4 (n := 0) (by simp [partsM]) (by simp [maxLen]), fun k hk => by rw [vblk_new hk]; exact Nat.le_refl _, h4⟩, fun x y wr hx => ?_⟩
 obtain ⟨j, hj, ⟨rfl, hO, hxk, hmr⟩, hJ2⟩ := lI2_step hx
 have hxr := hmr.get h.hx (fun h => h)
 have hfl := flat_len Part.cells 6 (fun _ => rfl) (partsM i M[i] j)
 have hpl := partsM_len i M[i] j
 unfold f9_5
 refine lss_at ?_
 refine kB_at ?_
 refine kIf_dec (fun hlt => ?_) (fun hge => ?_)
 ·have hlt : j < 4 := by omega
  unfold f9_6
  refine kfld_of ?_
  refine kld_of (v := .slice a M.length cp) hxr rfl ?_
  refine kixld_of (F := msk) (hs.same (h0w.trans hmr)) hi rfl ?_
  rw [msk, kint_shr]
  refine kG_of (by omega) ?_
  rw [shr_nat (k := .u32) M[i] j (by show j ≤ 32; omega), kint_rem]
  refine kG_of (by omega) ?_
  have hrem : ((M[i] / 2 ^ j : Nat) : Int).tmod 2 = ((M[i] / 2 ^ j % 2 : Nat) : Int) := by rw [Int.tmod_eq_emod_of_nonneg (Int.natCast_nonneg _)]; simp
  rw [hrem]
  refine eql_at ?_
  refine kB_at ?_
  refine kIf_dec (fun hb => ?_) (fun hb => ?_)
  ·have hb : M[i] / 2 ^ j % 2 = 1 := by omega
   refine mul_at (by omega) (by omega) ?_
   refine add_at (by omega) (by omega) ?_
   rw [show (10 : Int) * (i : Int) + (j : Int) = ((10 * i + j : Nat) : Int) by omega]
   refine kbld_of (cs := [.int .i64 ((10 * i + j : Nat) : Int), .int .i64 0, .int .i64 0, .int .i64 0]) rfl ?_
   refine kbld_of (cs := (partM i j).cells) rfl ?_
   refine kbldS_of (cs := (partM i j).cells) rfl fun w24 h24 hs24 hb24 => ?_
   refine ksem_append apPart2 (by omega) (hO.same h24) (Src.ofSlIs (hk := slPart2_is.choose_spec) 1 (SlIs.blk hb24 rfl) rfl) (by rw [hfl]; show _ * 6 + 6 ≤ _; omega) (by rw [hfl]; simp [Part.cells]; omega) ?_
   intro v' w26 hO26 m26 hf26
   unfold f9_7
   refine add_at (by omega) (by omega) ?_
   rw [cast_succ]
   refine hJ2 _ _ _ hlt ⟨rfl, ?_, fun k hk => ?_, (hmr.trans h24).trans' (m26.mono fun k _ e => .inr (hxk k e))⟩
   ·rw [partsM_succ, if_pos hb, List.flatMap_append]
    simpa using hO26
   ·rcases hf26 k hk with e | e
    ·exact hxk k e
    ·exact Nat.le_trans (hmr.trans h24).size e
  ·have hb : ¬ M[i] / 2 ^ j % 2 = 1 := by omega
   unfold f9_7
   refine add_at (by omega) (by omega) ?_
   rw [cast_succ]
   refine hJ2 _ _ _ hlt ⟨rfl, ?_, hxk, hmr⟩
   rw [partsM_succ, if_neg hb]
   exact hO
 ·have hj4 : j = 4 := by omega
  subst hj4
  obtain ⟨a', n', c', rfl, hsl, _⟩ := hO.is
  have hn' : n' = (partsM i M[i] 4).length := by
   have := hsl.1
   rw [flat_len Part.cells 6 (fun _ => rfl)] at this
   omega
  subst hn'
  have hfa : ∀ k f, a' = some ⟨k, f, none⟩ → ww.heap.size ≤ k ∧ k < wr.heap.size := fun k f e => by
   have hv : vblk (.slice a' (partsM i M[i] 4).length c') k := ⟨f, _, _, by rw [e]⟩
   exact ⟨hxk k hv, hO.vblk_lt hv⟩
  have hpl := partsM_len i M[i] 4
  unfold f9_8
  have hr := h.grow hmr
  obtain ⟨S, t, B, hP, hv, hnx, hg, ht⟩ := id hr.pr
  have hlen : (viewS S B).length = i := by rw [hv, laidV_len]
  refine kcall_of (pSpawn hL h6 hD hP (by omega) (by omega) hsl (fun k f e => .inr (hfa k f e)) (by omega) (by rw [hcL]; exact partsM_fits) (partsM_once _ _ _) (partsM_sort _ _ _) (by omega)) ?_
  rintro v w2 ⟨rfl, S', B', hv', hnx', hg', hP', hm'⟩
  have hr2 : LaidI w c o bh bv (layC a M.length cp i0 i1 who seed wd og).toArray host (i + 1) m (laidV M (i + 1)) (newB ww wr X) w2 := hr.act rfl ⟨S', t + 1, B', hP', by rw [hv', hv, laidV_succ, hnx, hMi], by omega, by omega, by omega⟩ hm'
  have hsl2 := hsl.mod hm' (fun k f e hk => hk.2 (.inr (hfa k f e)))
  refine kcall_of (r14Spawn hr2.v plainC_good (fun k hk => (hr2.lt hk).2) (by omega) hsl2 (by omega)) ?_
  rintro v w3 ⟨hv3, hm3⟩
  unfold f9_9
  refine add_at (by omega) (by omega) ?_
  rw [cast_succ]
  exact hJ _ _ (hr2.doc hv3 hm3)
end
end
section
attribute [local irreducible] kO kB kStr kInt kN kG kIf kfld kld kldN kst knew kmap kbld kbldS kext kcnv klenStr klen kcap kprt kprtN kbool kint kstr keq kun ksl kix kiv kta kmk kmm ksem ksemU kextf kcallV kcallM kcall kL
def laidH (c : WC) (o : OC) (wd og : Bool) (i0 i1 who : Int) : HC := ⟨if wd = true then some ⟨c.bw, 0, none⟩ else none, if og = true then some ⟨o.bo, 0, none⟩ else none, i0, i1, who⟩
structure Laid (w : World) (M : List Nat) (i0 i1 who seed : Int) (wd og : Bool) (many bh : Nat) (c : WC) (o : OC) (X : Nat → Prop) (w' : World) : Prop where
 cL : c.L = plainC
 cf : c.frame = 1
 cs : c.seed = seed
 cR : c.R = [5, 0]
 cr : c.rolled = rollF (plainC.map (·.rb))
 oL : o.L = plainC
 om : o.most = many
 pr : ∃ S t B, Pair c w o X w' S t B [] 0 0 ∧ viewS S B = laidV M (min M.length 20) ∧ B.nx = min M.length 20 + 1 ∧ S.gens.length = 20 ∧ t ≤ 20
 ap : ∀ k, X k → ¬ c.mine k
 xb : X bh
 hb : blk w' bh = some (.cells (laidH c o wd og i0 i1 who).cells.toArray 53)
section
variable {w : World} {c : WC} {o : OC} {bh : Nat} {X : Nat → Prop} {ww wr : World}
theorem pPut {S : SM} {t : Nat} {B : BdM} {l : List OrdM} {gv dr : Nat} (hP : Pair c w o X ww S t B l gv dr) (hap : ∀ k, X k → ¬ c.mine k) (hx : X bh) (m : Mod (fun k => k = bh) ww wr) : Pair c w o (newB ww wr X) wr S t B l gv dr ∧ ∀ k, newB ww wr X k → ¬ c.mine k := by
 refine ⟨hP.grow m fun k hk => by subst hk; exact ⟨hx, hap _ hx⟩, fun k hk => ?_⟩
 rcases hk with hk | hk
 ·exact hap k hk
 ·intro e
  obtain ⟨⟨fx, U, hW, _⟩, _⟩ := hP
  have := (hW.A.lt (hW.fm k e)).2
  omega
theorem laid_spec {pr : Nat → Prop} {Sa : Nat → Addr} (hL : LaidP pr Sa w) (h6 : pr 6) (hD : DeAt w) {a : Option Addr} {cp : Nat} {M : List Nat} (hs : SlIs w a M.length 1 (M.map msk)) (hM : ∀ m ∈ M, m < 4294967296) (i0 i1 who seed : Int) (wd og : Bool) {many : Nat} (hmany : many ≤ 64) :
  Meets Tryz.prog 9 #[.agg (layC a M.length cp i0 i1 who seed wd og).toArray, .int .i64 many] w fun v w' => ∃ bh c o X vv uv, v = .tuple #[.pointer (some ⟨bh, 0, none⟩), vv, uv] ∧ Laid w M i0 i1 who seed wd og many bh c o X w' := by
 have h4 : plainC.length = 4 := rfl
 refine f9_ok ?_
 unfold f9
 refine knew_of fun w2 h2 hs2 hb2 => ?_
 have hb2 : blk w2 w.heap.size = some (.cells (layC a M.length cp i0 i1 who seed wd og).toArray 41) := hb2
 refine kfld_of ?_
 refine kldN_at (cs := [.int .i64 i0, .int .i64 i1]) hb2 rfl (by omega) ?_
 refine kfld_of ?_
 refine kld_at (v := .int .i64 who) hb2 rfl ?_
 refine kbld_of (cs := [.pointer none, .pointer none, .int .i64 i0, .int .i64 i1, .int .i64 who]) rfl ?_
 refine knew_of fun w9 h9 hs9 hb9 => ?_
 have hb9 : blk w9 w2.heap.size = some (.cells #[.pointer none, .pointer none, .int .i64 i0, .int .i64 i1, .int .i64 who] 53) := hb9
 have md : Same w9 w9.drew := (Mod.refl (fun _ => False) _).drew
 have m9 : Same w w9.drew := (h2.trans h9).trans md
 have hx9 := (h9.trans md).get hb2 (fun h => h)
 have hh9 := md.get hb9 (fun h => h)
 have hz2 := h2.size
 have hlt2 := lt_of_blk hh9
 have hltx := lt_of_blk hb2
 generalize w9.drew = wq at *
 clear md hb9 h9 hs9
 refine kcall_of (plain_spec wq) ?_
 rintro v10 w11 ⟨⟨a1, c1, ra1, rc1, rfl, hC1, hR1, hla1⟩, h11⟩
 refine kfld_of ?_
 refine kld_at (v := .int .i64 seed) (h11.get hx9 (fun h => h)) rfl ?_
 refine kG_of rfl ?_
 refine kG_of (kld_at (v := .int .i64 seed) hx9 rfl ⟨rfl, rfl⟩) ?_
 have m11 := m9.trans h11
 refine kcall_of (wNewR (hD.same m11) hC1 plainC_good hR1 plainR_good (by omega) (most := 20) (by omega) seed) ?_
 rintro v14 w15 ⟨c, rfl, hcL, hcf, hcs, hcr, hcR, hW⟩
 refine kext_at rfl ?_
 refine kext_at rfl ?_
 refine kcall_of (plain_spec w15) ?_
 rintro v18 w19 ⟨⟨a2, c2, ra2, rc2, rfl, hC2, hR2, hla2⟩, h19⟩
 refine kcall_of (oNewR hC2 plainC_good hR2 plainR_good (by omega) hmany) ?_
 rintro v20 w21 ⟨o, rfl, hoL, hom, hO, h21⟩
 refine kext_at rfl ?_
 refine kext_at rfl ?_
 rw [keq_ptr_nil ptWor]
 refine kB_at ?_
 refine kIf_T rfl ?_
 rw [keq_ptr_nil ptOrd]
 refine kB_at ?_
 refine kIf_T rfl ?_
 rw [keq_nil_nil' ifErr]
 refine kB_at ?_
 refine kIf_T rfl ?_
 rw [keq_nil_nil' ifErr]
 have s15 := hW.A.same0
 have m15 := m11.trans s15
 have m21 := m15.trans (h19.trans h21)
 have n21 : Same wq w21 := h11.trans (s15.trans (h19.trans h21))
 have hx21 := n21.get hx9 (fun h => h)
 have hh21 := n21.get hh9 (fun h => h)
 have hz11 := h11.size
 have hzm11 := m11.size
 have hP0 : Pair c w o (fun k => w.heap.size ≤ k ∧ k < w11.heap.size) w21 (newS plainC 20) 0 ⟨[], 1⟩ [] 0 0 := (Pair.new (by rw [hoL]; omega) ((hW.base m11).ext h19) h21 hO).less fun k hk => .inl (.inr hk)
 have hap0 : ∀ k, (w.heap.size ≤ k ∧ k < w11.heap.size) → ¬ c.mine k := fun k hk e => by have := (hW.A.lt e).1; omega
 clear hW hO hC1 hC2 hR1 hR2 hla1 hla2
 unfold f9_0
 refine kB_at ?_
 refine kIf_F rfl ?_
 unfold f9_1
 have md : Same w21 w21.drew := (Mod.refl (fun _ => False) _).drew
 have m22 := m21.trans md
 have hzd : w21.drew.heap.size = w21.heap.size := rfl
 have hxd := md.get hx21 (fun h => h)
 have hh22 := md.get hh21 (fun h => h)
 have hP1 := hP0.loc md
 have hz21 := n21.size
 generalize w21.drew = we at *
 refine kcall_of (plain_spec we) ?_
 rintro v35 w36 ⟨⟨a3, c3, ra3, rc3, rfl, hC3, hR3, hla3⟩, h36⟩
 refine kfld_of ?_
 refine kld_at (v := .int .i64 seed) (h36.get hxd (fun h => h)) rfl ?_
 refine kG_of rfl ?_
 refine kG_of (kld_at (v := .int .i64 seed) hxd rfl ⟨rfl, rfl⟩) ?_
 refine kcall_of (r14New hC3 plainC_good (by omega) (by omega) hR3 plainR_good (lo := we.heap.size) h36.size hla3 20 (by omega) seed) ?_
 rintro v39 w40 ⟨bv, rfl, hV, h40⟩
 refine kcall_of (plain_spec w40) ?_
 rintro v41 w42 ⟨⟨a4, c4, ra4, rc4, rfl, hC4, hR4, hla4⟩, h42⟩
 refine kcall_of (r15New hC4 plainC_good (by omega) hR4 plainR_good many hmany) ?_
 rintro v43 w44 ⟨⟨b15, rfl⟩, h44⟩
 have m44 : Same we w44 := (h36.trans h40).trans (h42.trans h44)
 have hz44 := m44.size
 have hz40 := (h42.trans h44).size
 have hbv := hV.own.1
 have I44 : LaidI w c o w2.heap.size bv (layC a M.length cp i0 i1 who seed wd og).toArray #[.pointer none, .pointer none, .int .i64 i0, .int .i64 i1, .int .i64 who] 0 0 (laidV M 0) (newB we w44 fun k => w.heap.size ≤ k ∧ k < w11.heap.size) w44 :=
  ⟨⟨newS plainC 20, 0, ⟨[], 1⟩, hP1.grow m44 fun k hk => hk.elim, rfl, rfl, newS_len _ _, Nat.le_refl _⟩, (hV.same (h42.trans h44)).weak (fun k hk => .inr ⟨hk.1, by omega⟩) (Nat.le_refl _), m44.get hxd (fun h => h), m44.get hh22 (fun h => h), fun k hk => by
   rcases hk with hk | hk
   ·exact hap0 k hk
   ·intro e
    obtain ⟨⟨fx, U, hW, _⟩, _⟩ := hP1
    have := (hW.A.lt (hW.fm k e)).2
    omega, ⟨by omega, by omega, .inl ⟨Nat.le_refl _, by omega⟩, .inl ⟨by omega, by omega⟩⟩⟩
 obtain ⟨S, t, B, hP, hv, hnx, hg, ht⟩ := id I44.pr
 refine kcall_of (pTick hP I44.ap (by omega) (by omega)) ?_
 rintro v45 w46 ⟨rfl, hP', hm46⟩
 have I46 := I44.act (c' := c.tune c.R (c.frame + 1) c.seed c.gn) rfl ⟨S, t, B, hP', hv, hnx, hg, ht⟩ hm46
 refine kcall_of (r14Tick I46.v) ?_
 rintro v47 w48 ⟨hV48, hm48⟩
 have I48 := I46.doc (hV48.weak (fun k hk => .inl hk) (Nat.le_refl _)) hm48
 generalize hc1 : c.tune c.R (c.frame + 1) c.seed c.gn = c1 at *
 have e1 : c1.bw = c.bw := by rw [← hc1]; rfl
 have e2 : c1.L = plainC := by rw [← hc1]; exact hcL
 have e3 : c1.frame = 1 := by rw [← hc1]; show c.frame + 1 = 1; omega
 have e4 : c1.seed = seed := by rw [← hc1]; exact hcs
 have e5 : c1.R = [5, 0] := by rw [← hc1]; exact hcR
 have e6 : c1.rolled = rollF (plainC.map (·.rb)) := by rw [← hc1]; exact hcr
 rw [← e1]
 clear hc1 hP hP' hV48 I44 hV hP0 hP1 hcL hcf hcs hcr hcR e1 hx21 hh21 hxd hh22 hx9 hh9 hb2 hap0
 refine kL1_of (min M.length 20) (fun i x wr => x = .int .i64 i ∧ ∃ X, LaidI w c1 o w2.heap.size bv (layC a M.length cp i0 i1 who seed wd og).toArray #[.pointer none, .pointer none, .int .i64 i0, .int .i64 i1, .int .i64 who] i i (laidV M i) X wr) ⟨lI1_0 ⟨rfl, _, I48⟩, fun x wr hx => ?_⟩
 obtain ⟨i, hi, ⟨rfl, X, hI⟩, hJ⟩ := lI1_step hx
 have fin : i = min M.length 20 → ∀ {Q : PQ}, (∀ v w', (∃ bh c o X vv uv, v = .tuple #[.pointer (some ⟨bh, 0, none⟩), vv, uv] ∧ Laid w M i0 i1 who seed wd og many bh c o X w') → Q v w') → f9_10 (.pointer (some ⟨w.heap.size, 0, none⟩)) (.pointer (some ⟨w2.heap.size, 0, none⟩)) (.pointer (some ⟨c1.bw, 0, none⟩)) (.pointer (some ⟨o.bo, 0, none⟩)) (.pointer (some ⟨bv, 0, none⟩)) (.pointer b15) Q wr := by
  intro hie Q hQ
  obtain ⟨S, t, B, hP, hv, hnx, hg, ht⟩ := id hI.pr
  have f11 : ∀ (x12 : Value) (X2 : Nat → Prop) (w2' : World), Pair c1 w o X2 w2' S t B [] 0 0 → (∀ k, X2 k → ¬ c1.mine k) → X2 w2.heap.size → blk w2' w.heap.size = some (.cells (layC a M.length cp i0 i1 who seed wd og).toArray 41) → blk w2' w2.heap.size = some (.cells #[.pointer (if wd = true then some ⟨c1.bw, 0, none⟩ else none), .pointer none, .int .i64 i0, .int .i64 i1, .int .i64 who] 53) → f9_11 (.pointer (some ⟨w.heap.size, 0, none⟩)) (.pointer (some ⟨w2.heap.size, 0, none⟩)) (.pointer (some ⟨o.bo, 0, none⟩)) x12 (.pointer b15) Q w2' := by
   intro x12 X2 w2' hP2 hap2 hxb hx hh
   unfold f9_11
   refine kfld_of ?_
   refine kld_at (v := .bool og) hx rfl ?_
   refine kB_at ?_
   refine kIf_of (fun ho => ?_) (fun ho => ?_)
   ·refine kN_at ?_
    refine kfld_of ?_
    refine kst1_of hh rfl rfl (by show 1 < 5; omega) fun w89 h89 hs89 hb89 => ?_
    obtain ⟨hP3, hap3⟩ := pPut hP2 hap2 hxb h89
    unfold f9_12
    refine hQ _ _ ⟨_, c1, o, _, _, _, rfl, e2, e3, e4, e5, e6, hoL, hom, ⟨S, t, B, hP3, by rw [hv, hie], by omega, hg, by omega⟩, hap3, .inl hxb, ?_⟩
    rw [hb89, ho]; rfl
   ·unfold f9_12
    refine hQ _ _ ⟨_, c1, o, _, _, _, rfl, e2, e3, e4, e5, e6, hoL, hom, ⟨S, t, B, hP2, by rw [hv, hie], by omega, hg, by omega⟩, hap2, hxb, ?_⟩
    have ho : og = false := by simpa using ho
    rw [hh, ho]; rfl
  unfold f9_10
  refine kfld_of ?_
  refine kld_at (v := .bool wd) hI.hx rfl ?_
  refine kB_at ?_
  refine kIf_of (fun hw => ?_) (fun hw => ?_)
  ·refine kN_at ?_
   refine kfld_of ?_
   refine kst1_of hI.hh rfl rfl (by show 0 < 5; omega) fun w85 h85 hs85 hb85 => ?_
   obtain ⟨hP3, hap3⟩ := pPut hP hI.ap hI.at'.2.2.2 h85
   refine f11 _ _ _ hP3 hap3 (.inl hI.at'.2.2.2) (h85.get hI.hx (by omega)) ?_
   rw [hb85, hw]; rfl
  ·refine f11 _ _ _ hP hI.ap hI.at'.2.2.2 hI.hx ?_
   have hw : wd = false := by simpa using hw
   rw [hI.hh, hw]; rfl
 unfold f9_2
 refine kfld_of ?_
 refine kld_at (v := .slice a M.length cp) hI.hx rfl ?_
 refine klen_at ?_
 refine lss_at ?_
 refine kB_at ?_
 refine kIf_dec (fun hlt => ?_) (fun hge => ?_)
 ·refine lss_at ?_
  unfold f9_3
  refine kB_at ?_
  refine kIf_dec (fun h20 => ?_) (fun h20 => ?_)
  ·exact laid_parts hL h6 hD hs hM e2 (by omega) (by omega) (by omega) hI _ _ fun X' w' hI' => hJ _ _ (by omega) ⟨rfl, X', hI'⟩
  ·exact fin (by omega) fun v w' h => h
 ·unfold f9_3
  refine kB_at ?_
  refine kIf_F rfl ?_
  exact fin (by omega) fun v w' h => h
end
end
section
theorem ErrN.cases {Sa : Nat → Addr} {k lo : Nat} {e : Value} {w : World} (h : ErrN Sa k lo e w) : (k = 0 ∧ e = .nilIface) ∨ (k ≠ 0 ∧ ∃ t y, e = .iface t y) := by
 unfold ErrN at h
 split at h
 ·rename_i hk; exact .inl ⟨hk, h⟩
 ·rename_i hk; exact .inr ⟨hk, h.if⟩
def laidL (M : List Nat) (seed : Int) : LS := (laidV M (min M.length 20), ⟨[5, 0], seed, [], 0, 0⟩)
section
variable {w w' : World} {M : List Nat} {i0 i1 who seed : Int} {wd og : Bool} {many bh : Nat} {c : WC} {o : OC} {X : Nat → Prop}
theorem Laid.lv (h : Laid w M i0 i1 who seed wd og many bh c o X w') : LvI c w o (min M.length 20 + 1) X w' (laidL M seed) where
 pr := by
  obtain ⟨S, t, B, hP, hv, hnx, hg, ht⟩ := h.pr
  refine ⟨c.gn, S, t, B, ?_, hv, hnx⟩
  have e : c.tune (laidL M seed).2.R c.frame (laidL M seed).2.seed c.gn = c := by
   show c.tune [5, 0] c.frame seed c.gn = c
   rw [← h.cR, ← h.cs]; rfl
  rw [e]; exact hP
 ap := h.ap
 num := by
  intro v hv
  have hv : v ∈ [(5 : Int), 0] := hv
  simp at hv
  rcases hv with rfl | rfl <;> (unfold I64; omega)
 few := Nat.le_refl _
 ok := laidV_ok M (by omega)
 rl := by show 2 ≤ 1000; omega
end
theorem NoI.of {w w' : World} {M : List Nat} {i0 i1 who seed : Int} {wd og : Bool} {many bh : Nat} {c : WC} {o : OC} {X : Nat → Prop} (h : Laid w M i0 i1 who seed wd og many bh c o X w') : ∃ S t B, NoI c w o S t B X w' ⟨[], 0, [], 0, 0⟩ := by
 obtain ⟨S, t, B, hP, _⟩ := h.pr
 exact ⟨S, t, B, hP, h.ap, Nat.le_refl _⟩
end
section
def f4_10 (x10 x13 : Value) (Q : PQ) (w : World) : Prop :=
 keq Tryz.prog .eql 33 false true x13 .nilIface w fun v59 w60 =>
 kB v59 fun b61 => kIf (!b61)
 (kld (.pointer (some ⟨0, 0, none⟩)) w60 fun v62 =>
 kcall Tryz.prog 17 #[x13, v62] w60 fun v63 w64 =>
 kB v63 fun b65 => kIf b65
 (kcall Tryz.prog 12 #[x10] w64 fun v66 w67 =>
 kint .i64 .eql v66 (.int .i64 0) fun v68 =>
 Q v68 w67)
 (Q (.bool false) w64))
 (Q (.bool true) w60)
def f4_9 (x1 x10 x13 : Value) (Q : PQ) (w : World) : Prop :=
 kcall Tryz.prog 16 #[] w fun v53 w54 =>
 kcall Tryz.prog 15 #[v53, x1] w54 fun v55 w56 =>
 keq Tryz.prog .neq 33 false true v55 .nilIface w56 fun v57 w58 =>
 kB v57 fun b69 => kIf b69
 (Q (.bool true) w58)
 (f4_10 x10 x13 Q w58)
def f4_8 (x1 x10 x13 x84 : Value) (Q : PQ) (w : World) : Prop :=
 kB x84 fun b70 => kIf b70
 (Q (.bool false) w)
 (f4_9 x1 x10 x13 Q w)
def f4_7 (x1 x10 x13 : Value) (Q : PQ) (w : World) : Prop :=
 kcall Tryz.prog 11 #[x10] w fun v46 w47 =>
 kext v46 0 fun v48 =>
 kext v46 1 fun v49 =>
 kB v48 fun b50 => kIf (!b50)
 (keq Tryz.prog .neq 33 false true v49 .nilIface w47 fun v51 w52 =>
 f4_8 x1 x10 x13 v51 Q w52)
 (f4_8 x1 x10 x13 (.bool true) Q w47)
def f4_6 (x1 x10 x13 x74 : Value) (Q : PQ) (w : World) : Prop :=
 kB x74 fun b71 => kIf b71
 (Q (.bool false) w)
 (f4_7 x1 x10 x13 Q w)
def f4_5 (x1 x10 x11 x12 x13 : Value) (Q : PQ) (w : World) : Prop :=
 kint .i64 .gtr x12 x11 fun v30 =>
 kB v30 fun b31 => kIf (!b31)
 (kcall Tryz.prog 12 #[x10] w fun v32 w33 =>
 kint .i64 .sub x11 x12 fun v34 =>
 kint .i64 .neq v32 v34 fun v35 =>
 kB v35 fun b36 => kIf (!b36)
 (kcall Tryz.prog 13 #[x10] w33 fun v37 w38 =>
 kun .not (some .bool) v37 fun v39 =>
 kB v39 fun b40 => kIf (!b40)
 (kcall Tryz.prog 14 #[x10] w38 fun v41 w42 =>
 klen v41 fun v43 =>
 kint .i64 .gtr v43 (.int .i64 16) fun v45 =>
 f4_6 x1 x10 x13 v45 Q w42)
 (f4_6 x1 x10 x13 (.bool true) Q w38))
 (f4_6 x1 x10 x13 (.bool true) Q w33))
 (f4_6 x1 x10 x13 (.bool true) Q w)
def f4_11 (x1 x10 x11 x12 x13 : Value) (J12 : Value → Value → World → Prop) (Q : PQ) (w : World) : Prop :=
 kint .i64 .add x12 (.int .i64 1) fun v72 =>
 J12 v72 x13 w
def f4_4 (x1 x10 x11 x12 x13 : Value) (J12 : Value → Value → World → Prop) (Q : PQ) (w : World) : Prop :=
 kcall Tryz.prog 11 #[x10] w fun v25 w26 =>
 kext v25 0 fun v27 =>
 kext v25 1 fun v28 =>
 kun .not (some .bool) v27 fun v29 =>
 kB v29 fun b73 => kIf b73
 (f4_5 x1 x10 x11 x12 v28 Q w26)
 (f4_11 x1 x10 x11 x12 x13 J12 Q w26)
def f4_3 (x12 x13 x1 x10 x11 : Value) (J12 : Value → Value → World → Prop) (Q : PQ) (w : World) : Prop :=
 kint .i64 .leq x12 x11 fun v24 =>
 kB v24 fun b74 => kIf b74
 (f4_4 x1 x10 x11 x12 x13 J12 Q w)
 (f4_5 x1 x10 x11 x12 x13 Q w)
def f4_2 (x1 x2 x7 : Value) (Q : PQ) (w : World) : Prop :=
 kN x7 <|
 kldN 5 x7 w fun v17 =>
 kcall Tryz.prog 10 #[v17, x1, x2] w fun v18 w19 =>
 kmm .i64 true x2 (.int .i64 0) fun v20 =>
 kmm .i64 false v20 (.int .i64 4096) fun v22 =>
 kL fun (I : Value → Value → World → Prop) (μ : Value → Value → World → Nat) => I (.int .i64 0) .nilIface w19 ∧ ∀ (x12 x13 : Value) (w1 : World), I x12 x13 w1 →
 f4_3 x12 x13 x1 v18 v22 (fun y12 y13 w2 => I y12 y13 w2 ∧ μ y12 y13 w2 < μ x12 x13 w1) Q w1
def f4_1 (x1 x2 x3 : Value) (Q : PQ) (w : World) : Prop :=
 kldN 7 x3 w fun v9 =>
 kcall Tryz.prog 9 #[v9, .int .i64 6] w fun v10 w11 =>
 kext v10 0 fun v12 =>
 kext v10 1 fun v13 =>
 kext v10 2 fun v14 =>
 keq Tryz.prog .eql 43 false true v12 (.pointer none) w11 fun v15 w16 =>
 kB v15 fun b75 => kIf b75
 (Q (.bool false) w16)
 (f4_2 x1 x2 v12 Q w16)
def f4_0 (x1 x2 x3 : Value) (Q : PQ) (w : World) : Prop :=
 klen x1 fun v6 =>
 kint .i64 .gtr v6 (.int .i64 80) fun v8 =>
 kB v8 fun b76 => kIf b76
 (Q (.bool true) w)
 (f4_1 x1 x2 x3 Q w)
def f4 (x0 x1 x2 : Value) (Q : PQ) (w : World) : Prop :=
 knew (Value.cells x0) 41 w fun v1 w2 =>
 kcall Tryz.prog 8 #[] w2 fun v3 w4 =>
 kun .not (some .bool) v3 fun v5 =>
 kB v5 fun b77 => kIf b77
 (Q (.bool false) w4)
 (f4_0 x1 x2 v1 Q w4)
theorem f4_ok {x0 x1 x2 : Value} {Q : PQ} {w : World} (h : f4 x0 x1 x2 Q w) : Meets Tryz.prog 4 #[x0, x1, x2] w Q :=
 sound' (c := Tryz.f4.body.get rfl) [(12, [12, 13])] Tryz.func4 rfl rfl (args := [x0, x1, x2]) rfl (by kernel_rfl) h
end
section
attribute [local irreducible] kO kB kStr kInt kN kG kIf kfld kld kldN kst knew kmap kbld kbldS kext kcnv klenStr klen kcap kprt kprtN kbool kint kstr keq kun ksl kix kiv kta kmk kmm ksem ksemU kextf kcallV kcallM kcall kL
theorem ptHost : isPtrT Tryz.prog 43 = true := by kernel_rfl
theorem stepF_stop {σ : Type} {H : HostM σ} {l : List IN} {m : MS σ} (hp : m.place ≤ l.length) (h : (stepF H l m).2.1 = false) : (stepF H l m).1.fuel = m.fuel ∧ overF l.length (stepF H l m).1 = true := by
 by_cases ho : overF l.length m = true
 ·rw [stepF_over ho]; exact ⟨rfl, ho⟩
 ·cases hx : l[m.place]? with
  | none =>
   exfalso
   have ho : overF l.length m = false := by simpa using ho
   unfold overF at ho
   rw [Bool.or_eq_false_iff] at ho
   have h1 := of_decide_eq_false ho.2
   have h2 := List.getElem?_eq_none_iff.1 hx
   omega
  | some x =>
   rw [stepF_at ho hx] at h ⊢
   split at h
   ·rename_i hn
    rw [if_pos hn]
    exact ⟨rfl, by unfold overF MS.ends; rfl⟩
   ·cases h
section
variable {σ : Type} {H : HostM σ} {h : HC} {w0 : World} {cost : σ → Nat} {I : (Nat → Prop) → World → σ → Prop} {l : List IN} {bM : Nat} {E X : Nat → Prop} {w w' : World} {m : MS σ} {p : Nat → Prop} {Sa : Nat → Addr}
theorem mlStepOver (hM : MlAt h l bM E X w m) (ho : overF l.length m = true) : Meets Tryz.prog 11 #[.pointer (some ⟨bM, 0, none⟩)] w fun v w' => v = .tuple #[.bool false, .nilIface] ∧ Same w w' := by
 refine f11_ok ?_
 unfold f11
 rw [keq_ptr_nil ptMill]
 refine kB_at ?_
 refine kIf_F rfl ?_
 refine kcall_of (mlOver hM) ?_
 rintro v w7 ⟨rfl, h7⟩
 refine kB_at ?_
 rw [ho]
 refine kIf_T rfl ?_
 exact ⟨rfl, h7⟩
theorem ends_run (ht : Tld p Sa w0) (k1 : p 1) (k4 : p 4) (hpw : PowAt w0) (hh : HostI H h w0 okIN cost I) {la : Option Addr} {lc : Nat} (hs : SlIs w0 la l.length 3 (l.flatMap IN.cells)) (hl : l.length ≤ 80) (hok : ∀ x ∈ l, okIN x) {s : σ} (hi : I X w s) {bh : Nat} (fuel : Int) (hc : cost s + 4096 ≤ 4999) (hb : blk w bh = some (.cells h.cells.toArray 53)) {Q : PQ} (hQ : ∀ w', Same w0 w' → Q (.bool true) w') :
  f4_2 (.slice la l.length lc) (.int .i64 fuel) (.pointer (some ⟨bh, 0, none⟩)) Q w := by
 have hf0 : fuel0 fuel ≤ 4096 := by unfold fuel0; omega
 have hfe : min (max fuel 0) 4096 = ((fuel0 fuel : Nat) : Int) := by unfold fuel0; omega
 unfold f4_2
 refine kN_at ?_
 refine kldN_at (cs := h.cells) hb rfl (by omega) ?_
 refine kcall_of (mlNew h l (hs.same (hh.base hi)) (by omega) fuel) ?_
 rintro v w19 ⟨bM, rfl, hbM, h19, hMl⟩
 rw [kmm_max, kmm_min, hfe]
 have hM19 : MI h l bM (fun _ => False) I (newB w w19 X) w19 (MS.first fuel s) :=
  ⟨hMl s _ _ fun k hk => hk.elim, hh.grow (fp := fun _ => False) hi h19 (fun k hk => hk.elim), fun k hk => hk.elim⟩
 refine kL2_of (fuel0 fuel + 1) (fun i x y wr => x = .int .i64 i ∧ y = .nilIface ∧ ∃ X m, MI h l bM (fun _ => False) I X wr m ∧ m.good l.length ∧ m.fuel + i = fuel0 fuel ∧ cost m.h + m.fuel ≤ 4999 ∧ numL m.st ∧ (∀ z : Wk, z.at' 0 = 0 → (∀ x ∈ l, okOp l.length x) → (∀ p, p ≤ l.length → 0 ≤ z.at' p → DoneAt l z p) → Fits l z m)) ⟨lI2_0 ⟨rfl, rfl, _, _, hM19, ⟨Nat.zero_le _, Nat.zero_le _, hf0⟩, rfl, by show cost s + fuel0 fuel ≤ 4999; omega, (fun v hv => absurd hv List.not_mem_nil), fun z hz _ _ => .inr ⟨Nat.zero_le _, hz⟩⟩, fun x y wr hx => ?_⟩
 obtain ⟨i, hi', ⟨rfl, rfl, X1, m, hM, hg, hfu, hco, hnum, hfit⟩, hJ⟩ := lI2_step hx
 unfold f4_3
 refine leq_at ?_
 rw [decT (by omega)]
 refine kB_at ?_
 refine kIf_T rfl ?_
 unfold f4_4
 refine kcall_of (mlStep ht hh hM hg (by omega) hok (by omega) hnum) ?_
 rintro v w26 ⟨⟨e, rfl, he⟩, ⟨X2, hM26⟩, hm26⟩
 obtain ⟨g1, g2, g3⟩ := stepF_good H hh.rdo l m hg
 have gc := stepF_cost (cost := cost) hh.costw hh.costd l m
 have hlaw := fun z (h0 : z.at' 0 = 0) (hk : ∀ x ∈ l, okOp l.length x) hz => stepF_fits H hh.rdo (z := z) hk hz (hfit z h0 hk hz)
 refine kext_at rfl ?_
 refine kext_at rfl ?_
 refine not_at ?_
 refine kB_at ?_
 cases hb' : (stepF H l m).2.1 with
 | true =>
  refine kIf_F rfl ?_
  have g3' := g3 hb'
  unfold f4_11
  refine add_at (by omega) (by omega) ?_
  rw [cast_succ]
  exact hJ _ _ _ (by omega) ⟨rfl, rfl, X2, _, hM26, g1, by omega, by omega, stepF_num hh.dr64 (fun x hx v hv => hh.rd64 hM.hi (hok x hx) hv) hnum, fun z h0 hk hz => (hlaw z h0 hk hz).1 hb'⟩
 | false =>
  refine kIf_T rfl ?_
  obtain ⟨sf, so⟩ := stepF_stop hg.1 hb'
  have hend : ∀ z : Wk, z.at' 0 = 0 → (∀ x ∈ l, okOp l.length x) → (∀ p, p ≤ l.length → 0 ≤ z.at' p → DoneAt l z p) → (stepF H l m).2.2 = 0 ∨ (stepF H l m).2.2 = 15 ∧ (stepF H l m).1.fuel = 0 := fun z h0 hk hz => (hlaw z h0 hk hz).2
  generalize hz' : (stepF H l m).1 = z at *
  generalize (stepF H l m).2.2 = k at *
  clear hJ hlaw hfit hx
  unfold f4_5
  refine gtr_at ?_
  rw [decF (by omega)]
  refine kB_at ?_
  refine kIf_T rfl ?_
  refine kcall_of (mlFuel hM26.ml) ?_
  rintro v w33 ⟨rfl, rfl⟩
  refine sub_at (by omega) (by omega) ?_
  refine neq_at ?_
  rw [decF (by omega)]
  refine kB_at ?_
  refine kIf_T rfl ?_
  refine kcall_of (mlOver hM26.ml) ?_
  rintro v w38 ⟨rfl, h38⟩
  rw [so]
  refine not_at ?_
  refine kB_at ?_
  refine kIf_T rfl ?_
  have hM38 := hM26.same hh h38
  refine kcall_of (mlStack hM38.ml (by have := g1.2.1; omega)) ?_
  rintro v w42 ⟨hO42, _, h42⟩
  obtain ⟨a4, n4, c4, rfl, _, hn4⟩ := hO42.is
  obtain rfl : n4 = z.st.length := by have := hn4 rfl; rw [List.length_map] at this; exact this
  have hst := g1.2.1
  refine klen_at ?_
  refine gtr_at ?_
  rw [decF (by omega)]
  unfold f4_6
  refine kB_at ?_
  refine kIf_F rfl ?_
  unfold f4_7
  have hM42 := hM38.same hh h42
  refine kcall_of (mlStepOver hM42.ml so) ?_
  rintro v w47 ⟨rfl, h47⟩
  refine kext_at rfl ?_
  refine kext_at rfl ?_
  refine kB_at ?_
  refine kIf_T rfl ?_
  rw [keq_nil_nil' ifErr]
  unfold f4_8
  refine kB_at ?_
  refine kIf_F rfl ?_
  unfold f4_9
  have hM47 := hM42.same hh h47
  have s47 := hh.base hM47.hi
  have he47 := ((he.same h38).same h42).same h47
  refine kcall_of (plain_spec w47) ?_
  rintro v w54 ⟨⟨a1, c1, ra1, rc1, rfl, hC1, hR1, _⟩, h54⟩
  have s54 := s47.trans h54
  refine kcall_of (codeCheck_spec (lc := lc) (ht.hL.same s54) k1 k4 ht.k12 ht.k13 ht.k14 (ht.hr.same s54) (hpw.same s54) hC1 (hs.same s54) (by omega)) ?_
  rintro v w56 ⟨hv, h56⟩
  have s56 := s54.trans h56
  rcases hv with ⟨rfl, hdo⟩ | ⟨t, y, rfl⟩
  ·rw [keq_nil_nil' ifErr]
   refine kB_at ?_
   refine kIf_F rfl ?_
   obtain ⟨zz, hz0, hzd⟩ := depths_law hdo
   have hfin := hend zz hz0 hdo.1 hzd
   have he56 := (he47.same h54).same h56
   unfold f4_10
   rcases he56.cases with ⟨hk0, rfl⟩ | ⟨hk0, t, y, rfl⟩
   ·rw [keq_nil_nil ifErr]
    refine kB_at ?_
    refine kIf_F rfl ?_
    exact hQ _ s56
   ·obtain ⟨hk15, hfz⟩ := hfin.resolve_left hk0
    rw [keq_if_nil ifErr]
    refine kB_at ?_
    refine kIf_T rfl ?_
    refine kld_err (ht.hL.same s56) ht.k15 rfl rfl ?_
    have hEX : ErrX Sa 15 wr.heap.size (.iface t y) w56 := by
     unfold ErrN at he56
     rw [if_neg hk0, hk15] at he56
     exact he56
    refine kcall_of (isX_spec (ht.hL.same s56) ht.k15 ht.k15 hEX) ?_
    rintro v w64 ⟨rfl, rfl⟩
    refine kB_at ?_
    refine kIf_T rfl ?_
    refine kcall_of (mlFuel ((hM47.same hh h54).same hh h56).ml) ?_
    rintro v w67 ⟨rfl, rfl⟩
    refine eql_at ?_
    rw [decT (by omega)]
    exact hQ _ s56
  ·rw [keq_if_nil' ifErr]
   refine kB_at ?_
   refine kIf_T rfl ?_
   exact hQ _ s56
end
section
variable {w : World} {p : Nat → Prop} {Sa : Nat → Addr}
theorem ends_spec (ht : Tld p Sa w) (k1 : p 1) (k2 : p 2) (k4 : p 4) (k6 : p 6) (k7 : p 7) (k17 : p 17) (hD : DeAt w) (hpw : PowAt w) {a : Option Addr} {cp : Nat} {M : List Nat} (hs : SlIs w a M.length 1 (M.map msk)) (hM : ∀ m ∈ M, m < 4294967296) {i0 i1 who seed : Int} (hi0 : I64 i0) (hi1 : I64 i1) (hwho : I64 who) (wd og : Bool) {la : Option Addr} {lc : Nat} {l : List IN} (hl : SlIs w la l.length 3 (l.flatMap IN.cells)) (hok : ∀ x ∈ l, okIN x) (fuel : Int) :
  Meets Tryz.prog 4 #[.agg (layC a M.length cp i0 i1 who seed wd og).toArray, .slice la l.length lc, .int .i64 fuel] w fun v w' => v = .bool true ∧ Same w w' := by
 refine f4_ok ?_
 unfold f4
 refine knew_of fun w2 h2 hs2 hb2 => ?_
 have hb2 : blk w2 w.heap.size = some (.cells (layC a M.length cp i0 i1 who seed wd og).toArray 41) := hb2
 refine kcall_of (awake17_spec (ht.same h2)) ?_
 rintro v w4 ⟨rfl, h4⟩
 refine not_at ?_
 refine kB_at ?_
 refine kIf_F rfl ?_
 have m4 := h2.trans h4
 unfold f4_0
 refine klen_at ?_
 refine gtr_at ?_
 refine kB_at ?_
 refine kIf_dec (fun hgt => ⟨rfl, m4⟩) (fun hgt => ?_)
 have hb4 := h4.get hb2 (fun h => h)
 have ht4 := ht.same m4
 unfold f4_1
 refine kldN_at (cs := layC a M.length cp i0 i1 who seed wd og) hb4 rfl (by omega) ?_
 refine kcall_of (laid_spec ht4.hL k6 (hD.same m4) (hs.same m4) hM i0 i1 who seed wd og (many := 6) (by omega)) ?_
 rintro v w11 ⟨bh, c, o, X, vv, uv, rfl, hLd⟩
 refine kext_at rfl ?_
 refine kext_at rfl ?_
 refine kext_at rfl ?_
 rw [keq_ptr_nil ptHost]
 refine kB_at ?_
 refine kIf_F rfl ?_
 have hbh := hLd.hb
 cases wd with
 | false =>
  obtain ⟨S1, t1, B1, hN⟩ := NoI.of hLd
  have hh := host_of (no_host (c := c) (w0 := w4) (o := o) (S := S1) (t := t1) (B := B1) ht4.hL k1 k2 k6 og hi0 hi1 hwho (by rw [hLd.om]; omega))
  exact ends_run (lc := lc) (h := noH o og i0 i1 who) ht4 k1 k4 (hpw.same m4) hh (hl.same m4) (by omega) hok hN fuel (by show 0 + 0 + 4096 ≤ 4999; omega) hbh fun w' h' => ⟨rfl, m4.trans h'⟩
 | true =>
  have hh := host_of (lv_host (c0 := c) (w0 := w4) (o := o) (nx := min M.length 20 + 1) ht4.hL k1 k2 k6 k7 k17 og hi0 hi1 hwho (by rw [hLd.om]; omega) (by rw [hLd.cf]; unfold I64; omega))
  exact ends_run (lc := lc) (h := nbH c o og i0 i1 who) ht4 k1 k4 (hpw.same m4) hh (hl.same m4) (by omega) hok hLd.lv fuel (by show 0 + 0 + 4096 ≤ 4999; omega) hbh fun w' h' => ⟨rfl, m4.trans h'⟩
end
end
end Go.Proofs.YtenokhokboicnaaGreatDoor
namespace Go.Proofs.YtenokhokboicnaaGreatDoor
open Go Go.Ev Go.RowKit Go.ChangeShapes Go.WideShapes Go.ChangeAt
section
namespace ST
theorem cU8 : Tryz.prog.cellsOf 5 = 1 := by kernel_rfl
theorem cMask : Tryz.prog.cellsOf 69 = 1 := by kernel_rfl
theorem gDe : Tryz.prog.globalNamed "math/bits.deBruijn32tab" = some 20 := by kernel_rfl
theorem tDe : (Tryz.prog.globals[20]?).map (·.type) = some 404 := by kernel_rfl
theorem cDe : Tryz.prog.cellsOf 404 = 32 := by kernel_rfl
theorem deTab_lits : Rows.laid_math_bits_deBruijn32tab (H := Unit) = .agg (deTab.map fun n : Nat => .lit (.int .u8 (n : Int))) := by rfl
theorem deAt_of {W : World} (h : ∃ g t cs f p, Tryz.prog.globalNamed "math/bits.deBruijn32tab" = some g ∧ (Tryz.prog.globals[g]?).map (·.type) = some t ∧ W.var? Tryz.prog "math/bits.deBruijn32tab" = some cs ∧ DataW.trod (fun _ => ()) Tryz.prog W 0 (fun _ => true) false f t cs.toList = some (Rows.laid_math_bits_deBruijn32tab, p)) : DeAt W := by
 obtain ⟨g0, t0, cs0, f0, p0, hg0, ht0, hv0, hd0⟩ := h
 obtain rfl := Option.some.inj (gDe.symm.trans hg0)
 obtain rfl := Option.some.inj (tDe.symm.trans ht0)
 obtain ⟨xs, m, _, hx, hl, hxl, hel⟩ := DataW.trod_array Tryz.underlying404 hd0
 rw [cDe] at hl
 rw [deTab_lits] at hx
 simp only [Prod.mk.injEq, DataW.agg.injEq] at hx
 obtain ⟨t, f, hb⟩ := blk_of_var gDe hv0
 refine ⟨t, f, ?_⟩
 rw [hb]
 congr 2
 apply Array.ext'
 apply List.ext_getElem?
 intro i
 simp only [List.getElem?_map]
 by_cases hi : i < 32
 ·have h1 := hel i hi
  rw [cU8, Nat.mul_one, List.getElem?_eq_getElem (show i < xs.length by omega)] at h1
  obtain ⟨n, e1, e2, _⟩ := DataW.trod_int Tryz.underlying5 h1
  have h2 := congrArg (fun l : List (DataW Unit) => l[i]?) hx.1
  simp only [List.getElem?_map, List.getElem?_eq_getElem (show i < xs.length by omega), Option.map_some] at h2
  have hdl : i < deTab.length := hi
  rw [List.getElem?_eq_getElem hdl, Option.map_some] at h2 ⊢
  rw [e2] at h2
  simp only [Option.some.injEq, DataW.lit.injEq, Lit.int.injEq] at h2
  have h3 : cs0.toList[i]? = some (.int .u8 n) := by
   have := congrArg (fun l : List Value => l[0]?) e1
   simpa [List.getElem?_take, List.getElem?_drop] using this
  rw [h3, ← h2.2]
 ·rw [List.getElem?_eq_none (by omega), List.getElem?_eq_none (show deTab.length ≤ i by show 32 ≤ i; omega)]; rfl
def rowD (r : OpRow) : DataW Unit := .agg [.lit (.string r.1), .lit (.int .i64 r.2.1), .lit (.int .i64 r.2.2.1), .lit (.int .i64 r.2.2.2)]
theorem rows_lits : Rows.laid_pasodoble_code_rows (H := Unit) = .agg (opRows.map rowD) := by rfl
theorem cRow : Tryz.prog.cellsOf 188 = 4 := by kernel_rfl
theorem gRows : Tryz.prog.globalNamed "pasodoble/code.rows" = some 18 := by kernel_rfl
theorem tRows : (Tryz.prog.globals[18]?).map (·.type) = some 271 := by kernel_rfl
theorem cRows : Tryz.prog.cellsOf 271 = 144 := by kernel_rfl
theorem tx_of (s : ByteArray) : tx s.data.toList = s := by
 unfold tx; cases s; simp
theorem row_cells {W : World} {f : Nat} {cs : List Value} {r : OpRow} {p : List MemPlace} (h : DataW.trod (fun _ => ()) Tryz.prog W 0 (fun _ => true) false f 188 cs = some (rowD r, p)) : cs = rowC r := by
 obtain ⟨xs, m, _, hx, hl, hxl, hel⟩ := DataW.trod_struct Tryz.underlying188 h
 rw [cRow] at hl
 match cs, hl with
 | [a, b, c, d], _ =>
  have e0 := hel 0 _ rfl
  have e1 := hel 1 _ rfl
  have e2 := hel 2 _ rfl
  have e3 := hel 3 _ rfl
  simp only [List.getElem_toArray, List.getElem_cons_zero, List.getElem_cons_succ, cStr, c3] at e0 e1 e2 e3
  have hxl4 : xs.length = 4 := hxl
  match xs, hxl4 with
  | [x0, x1, x2, x3], _ =>
   obtain ⟨s, f0, g0, _⟩ := DataW.trod_string Tryz.underlying9 e0
   obtain ⟨i, f1, g1, _⟩ := DataW.trod_int Tryz.underlying3 e1
   obtain ⟨j, f2, g2, _⟩ := DataW.trod_int Tryz.underlying3 e2
   obtain ⟨k, f3, g3, _⟩ := DataW.trod_int Tryz.underlying3 e3
   simp at f0 f1 f2 f3
   subst g0 g1 g2 g3 f0 f1 f2 f3
   simp only [rowD, List.map_cons, List.map_nil, Prod.mk.injEq, DataW.agg.injEq, List.cons.injEq, DataW.lit.injEq, Lit.string.injEq, Lit.int.injEq, true_and, and_true] at hx
   obtain ⟨⟨h0, h1, h2, h3⟩, _⟩ := hx
   simp only [rowC, h0, h1, h2, h3, tx_of]
theorem rowsAt_of {W : World} (h : ∃ g t cs f p, Tryz.prog.globalNamed "pasodoble/code.rows" = some g ∧ (Tryz.prog.globals[g]?).map (·.type) = some t ∧ W.var? Tryz.prog "pasodoble/code.rows" = some cs ∧ DataW.trod (fun _ => ()) Tryz.prog W 0 (fun _ => true) false f t cs.toList = some (Rows.laid_pasodoble_code_rows, p)) : RowsAt W := by
 obtain ⟨g0, t0, cs0, f0, p0, hg0, ht0, hv0, hd0⟩ := h
 obtain rfl := Option.some.inj (gRows.symm.trans hg0)
 obtain rfl := Option.some.inj (tRows.symm.trans ht0)
 obtain ⟨xs, m, _, hx, hl, hxl, hel⟩ := DataW.trod_array Tryz.underlying271 hd0
 rw [cRows] at hl
 rw [rows_lits] at hx
 simp only [Prod.mk.injEq, DataW.agg.injEq] at hx
 obtain ⟨t, f, hb⟩ := blk_of_var gRows hv0
 refine ⟨t, f, ?_⟩
 rw [hb]
 congr 2
 apply Array.ext'
 show cs0.toList = opRows.flatMap rowC
 have hgr : ∀ i (hi : i < 36), (cs0.toList.drop (i * 4)).take 4 = rowC (opRows[i]'hi) := by
  intro i hi
  have h1 := hel i hi
  rw [cRow, List.getElem?_eq_getElem (show i < xs.length by omega)] at h1
  have h2 := congrArg (fun l : List (DataW Unit) => l[i]?) hx.1
  simp only [List.getElem?_map, List.getElem?_eq_getElem (show i < xs.length by omega), List.getElem?_eq_getElem (show i < opRows.length from hi), Option.map_some, Option.some.injEq] at h2
  exact row_cells (W := W) (p := (xs[i]'(by omega)).2) (f := m) (h1.trans (congrArg some (Prod.ext h2.symm rfl)))
 have hfl : (opRows.flatMap rowC).length = 144 := flat_len rowC 4 (fun _ => rfl) opRows
 apply List.ext_getElem?
 intro j
 by_cases hj : j < 144
 ·have hq : j / 4 < 36 := by omega
  have e1 := congrArg (fun l : List Value => l[j % 4]?) (hgr (j / 4) hq)
  have e2 := flat_cell (F := rowC) (sz := 4) (fun _ => rfl) (l := opRows) (i := j / 4) (j := j % 4) hq (by omega)
  simp only [List.getElem?_take_of_lt (show j % 4 < 4 by omega), List.getElem?_drop] at e1
  rw [show j / 4 * 4 + j % 4 = j by omega] at e1 e2
  rw [e1, e2]
 ·rw [List.getElem?_eq_none (by omega), List.getElem?_eq_none (by omega)]
def ks : List Nat := [1, 2, 4, 6, 7, 8, 9, 10, 12, 13, 14, 15, 17]
theorem ks_at (k : Nat) (h : k ∈ ks) : Tryz.prog.globalNamed (errG k) = some (gErr k) ∧ (Tryz.prog.globals[gErr k]?).map (·.type) = some 33 := by
 simp only [ks, List.mem_cons, List.not_mem_nil, or_false] at h
 rcases h with rfl | rfl | rfl | rfl | rfl | rfl | rfl | rfl | rfl | rfl | rfl | rfl | rfl <;> exact ⟨by kernel_rfl, by kernel_rfl⟩
theorem laid_of {W : World} (h : laidMetH Tryz.prog Rows.millEndsRow.laid W) : (∃ S, Tld (· ∈ ks) S W) ∧ DeAt W := by
 obtain ⟨S, hS⟩ := laidP_ofG ks ((Rows.millEndsRow.laid.filter isSent).map sentOf) (by kernel_rfl) (by rfl) (by rfl) ks_at (by decide) h
 exact ⟨⟨S, hS, rowsAt_of (laidD_of (by kernel_rfl) (fun x => x.1 == "pasodoble/code.rows") _ _ (by rfl) h), by decide, by decide, by decide, by decide⟩,
  deAt_of (laidD_of (by kernel_rfl) (fun x => x.1 == "math/bits.deBruijn32tab") _ _ (by rfl) h)⟩
theorem cU64 : Tryz.prog.cellsOf 369 = 1 := by kernel_rfl
theorem gPow : Tryz.prog.globalNamed "internal/strconv.uint64pow10" = some 19 := by kernel_rfl
theorem tPow : (Tryz.prog.globals[19]?).map (·.type) = some 401 := by kernel_rfl
theorem pow_of {W : World} {d : DataW Unit} (h : ∃ g t cs f p, Tryz.prog.globalNamed "internal/strconv.uint64pow10" = some g ∧ (Tryz.prog.globals[g]?).map (·.type) = some t ∧ W.var? Tryz.prog "internal/strconv.uint64pow10" = some cs ∧ DataW.trod (fun _ => ()) Tryz.prog W 0 (fun _ => true) false f t cs.toList = some (d, p)) : PowAt W := by
 obtain ⟨g2, t2, cs2, f2, p2, hg2, ht2, hv2, hd2⟩ := h
 obtain rfl := Option.some.inj (gPow.symm.trans hg2)
 obtain rfl := Option.some.inj (tPow.symm.trans ht2)
 obtain ⟨xs, m, _, hx, hl, hxl, hel⟩ := DataW.trod_array Tryz.underlying401 hd2
 obtain ⟨t, f, hb⟩ := blk_of_var gPow hv2
 refine ⟨cs2, t, f, hb, fun i hi => ?_⟩
 have h1 := hel i hi
 rw [cU64, Nat.mul_one, List.getElem?_eq_getElem (show i < xs.length by omega)] at h1
 obtain ⟨n, e1, _, _⟩ := DataW.trod_int Tryz.underlying369 h1
 have h3 : cs2.toList[i]? = some (.int .u64 n) := by
  have := congrArg (fun l : List Value => l[0]?) e1
  simpa [List.getElem?_take, List.getElem?_drop] using this
 exact ⟨n, by simpa using h3⟩
theorem pow_laid {W : World} (h : laidMetH Tryz.prog Rows.millEndsRow.laid W) : PowAt W :=
 pow_of (laidD_of (by kernel_rfl) (fun x => x.1 == "internal/strconv.uint64pow10") _ _ (by rfl) h)
theorem i64_of {n : Int} (h : (Lit.int .i64 n).wf = true) : I64 n := i64_wf h
theorem cIn : Tryz.prog.cellsOf 39 = 2 := by kernel_rfl
theorem cBool : Tryz.prog.cellsOf 4 = 1 := by kernel_rfl
theorem cMks : Tryz.prog.cellsOf 37 = 1 := by kernel_rfl
theorem cLay : Tryz.prog.cellsOf 41 = 7 := by kernel_rfl
theorem cInstr : Tryz.prog.cellsOf 67 = 3 := by kernel_rfl
theorem flat_msk : ∀ l : List Nat, l.flatMap (fun m : Nat => [msk m]) = l.map msk
 | [] => rfl
 | m :: l => by rw [List.flatMap_cons, flat_msk l]; rfl
theorem lay_of {w : World} {n : Nat} {cs : List Value} (h : Rd Tryz.prog w (n + 3) 41 cs) : ∃ (a : Option Addr) (M : List Nat) (c : Nat) (i0 i1 who seed : Int) (wd og : Bool), layC a M.length c i0 i1 who seed wd og = cs ∧ (∀ m ∈ M, m < 4294967296) ∧ SlIs w a M.length 1 (M.map msk) ∧ I64 i0 ∧ I64 i1 ∧ I64 who := by
 obtain ⟨hl, hf⟩ := rd_struct Tryz.underlying41 h
 rw [cLay] at hl
 match cs, hl with
 | [a0, a1, a2, a3, a4, a5, a6], _ =>
  simp only [RdF] at hf
  obtain ⟨h0, h1, h2, h3, h4, h5, _⟩ := hf
  simp only [c3, cIn, cBool, cMks] at h0 h1 h2 h3 h4 h5
  obtain ⟨ta, M, c, e0, hM, _, _, hs⟩ := slIs_of_rd (F := fun m : Nat => [msk m]) (sz := 1) (ok := fun m => m < 4294967296) (fun _ => rfl) (by omega) Tryz.underlying37 cMask (fun ec h => by
   obtain ⟨i, e, g⟩ := rd_int Tryz.underlying69 h
   obtain ⟨u0, u1⟩ := u32_wf g
   exact ⟨i.toNat, by omega, by rw [e, msk, Int.toNat_of_nonneg u0]⟩) h0
  obtain ⟨_, h1⟩ := rd_array Tryz.underlying39 h1
  simp only [c3] at h1
  obtain ⟨i0, e1, g1⟩ := rd_int Tryz.underlying3 (h1 0 (by decide))
  obtain ⟨i1, e2, g2⟩ := rd_int Tryz.underlying3 (h1 1 (by decide))
  obtain ⟨who, e3, g3⟩ := rd_int Tryz.underlying3 h2
  obtain ⟨seed, e4, _⟩ := rd_int Tryz.underlying3 h3
  obtain ⟨wd, e5⟩ := rd_bool Tryz.underlying4 h4
  obtain ⟨og, e6⟩ := rd_bool Tryz.underlying4 h5
  simp at e0 e1 e2 e3 e4 e5 e6
  subst e0 e1 e2 e3 e4 e5 e6
  exact ⟨ta, M, c, i0, i1, who, seed, wd, og, rfl, hM, by rw [← flat_msk]; exact hs, i64_of g1, i64_of g2, i64_of g3⟩
theorem agg_of {v : Value} {cs1 : Array Value} {l : List Value} (h : v = .agg cs1) (h2 : l = v.cells.toList) : v = .agg l.toArray := by
 subst h h2
 rfl
theorem in_of {w : World} {n : Nat} {cs : List Value} (h : Rd Tryz.prog w (n + 2) 67 cs) : ∃ x : IN, okIN x ∧ x.cells = cs := by
 obtain ⟨hl, hf⟩ := rd_struct Tryz.underlying67 h
 rw [cInstr] at hl
 match cs, hl with
 | [a0, a1, a2], _ =>
  simp only [RdF] at hf
  obtain ⟨h0, h1, h2, _⟩ := hf
  simp only [c3] at h0 h1 h2
  obtain ⟨i0, e0, g0⟩ := rd_int Tryz.underlying3 h0
  obtain ⟨i1, e1, g1⟩ := rd_int Tryz.underlying3 h1
  obtain ⟨i2, e2, g2⟩ := rd_int Tryz.underlying3 h2
  simp at e0 e1 e2
  subst e0 e1 e2
  exact ⟨⟨i0, i1, i2⟩, i64_of g1, rfl⟩
theorem ins_of {W : World} {cs : List Value} (h : Rd Tryz.prog W 9 42 cs) : ∃ (a : Option Addr) (l : List IN) (c : Nat), cs = [.slice a l.length c] ∧ (∀ x ∈ l, okIN x) ∧ SlIs W a l.length 3 (l.flatMap IN.cells) := by
 obtain ⟨a, l, c, e, h1, _, _, h2⟩ := slIs_of_rd (F := IN.cells) (sz := 3) (ok := okIN) (fun _ => rfl) (by omega) Tryz.underlying42 cInstr (fun ec h => in_of h) h
 exact ⟨a, l, c, e, h1, h2⟩
end ST
end
section
namespace ST
theorem door_met (os : Os) (args : Array Value) : laidMetH Tryz.prog Rows.millEndsRow.laid ((World.doorLaid Tryz.prog 407 os).forCall (fun _ _ => 0) ⟨#[], args, []⟩).memory :=
 laidMetH_of_parts3 (fuel := 8) (laidMet_of_run' 8 (by kernel_rfl) (by kernel_rfl)) (by kernel_rfl) (by kernel_rfl)
theorem lifted (os : Os) (started : os.Started) (H : Type) (enc : TypeId × Value → H) :
  ReturnsInHanded {} Tryz.checked os 4 .any (fun w args => (Rows.millEndsSpec.pre enc Tryz.prog Tryz.f4 [] false w args ∧ laidMetH Tryz.prog Rows.millEndsRow.laid w) ∧ sizedMet enc Tryz.prog Tryz.f4 (OpenSpec.ofChange Rows.millEndsSpec) false w args)
   (Rows.millEndsSpec.post enc Tryz.prog Tryz.f4 false true false false) := by
 refine returnsInHanded_of_change_and (C := Tryz.checked) (X := fun w _ => laidMetH Tryz.prog Rows.millEndsRow.laid w) (fun _ _ _ hh h => h.of_heap hh) own started (by kernel_rfl) Tryz.func4
  (ChangeSpec.witness_shaped (enc := enc) (C := Tryz.checked) (os := os) (X := fun w _ => laidMetH Tryz.prog Rows.millEndsRow.laid w) false (World.doorLaid Tryz.prog 407 os) #[.agg #[.slice none 0 0, .int .i64 0, .int .i64 0, .int .i64 0, .int .i64 0, .bool false, .bool false], .slice none 0 0, .int .i64 0] 8 rfl (World.shaped_of_RefB (by kernel_rfl) (by kernel_rfl)) (by kernel_rfl) (by kernel_rfl) (by kernel_rfl) (door_met os _)) ?_
 intro W base args ds gs before hval0 hW _ _ hL _
 have hval : ∀ (j : Nat) t v, Tryz.f4.params[j]? = some t → args[j]? = some v → Value.okWide Tryz.prog W .any base t v := hval0
 have hW' := hW
 obtain ⟨p, q, hA0, hV, rfl, hfz, hnd⟩ := hW
 have hA : DataW.TrodAll enc Tryz.prog W 0 (fun _ => true) true Tryz.f4.params.toList args.toList ds p := hA0
 rw [Tryz.params4] at hA hval
 obtain ⟨v0, vs0, d0, ds0, p0, q0, hargs, rfl, rfl, h0, r0⟩ := trodAll_cons hA
 obtain ⟨v1, vs1, d1, ds1, p1, q1, rfl, rfl, rfl, h1, r1⟩ := trodAll_cons r0
 obtain ⟨v2, vs2, d2, ds2, p2, q2, rfl, rfl, rfl, h2, r2⟩ := trodAll_cons r1
 obtain ⟨rfl, rfl, rfl⟩ := trodAll_nil r2
 obtain rfl : args = #[v0, v1, v2] := by cases args; simp_all
 obtain ⟨rfl, rfl⟩ := trodVars_none hV
 have hlt : ∀ x ∈ p0 ++ (p1 ++ (p2 ++ [])) ++ [], x.block < W.heap.size := fun x hx => hW'.lt x hx
 obtain ⟨fuel, rfl, rfl, rfl, w2⟩ := open_int Tryz.underlying3 (hval 2 3 v2 rfl rfl) h2
 obtain ⟨cs0, e0, _⟩ := okWide_struct Tryz.underlying41 (hval 0 41 v0 rfl rfl)
 obtain ⟨ma, M, mc, i0, i1, who, seed, wd, og, ex, hM, hMs, hi0, hi1, hwho⟩ := lay_of (rd_of_Trod h0 9)
 obtain rfl : v0 = .agg (layC ma M.length mc i0 i1 who seed wd og).toArray := agg_of e0 ex
 obtain ⟨a4, n4, c4', e4⟩ := okWide_slice Tryz.underlying42 (hval 1 42 v1 rfl rfl)
 obtain ⟨ta, la, ca, ea, hok, hap⟩ := ins_of (rd_of_Trod h1 9)
 obtain rfl : v1 = .slice ta la.length ca := by
  subst e4
  simpa [Value.cells] using ea
 obtain ⟨⟨S, hS⟩, hD⟩ := laid_of hL
 have hmet := ends_spec hS (by decide) (by decide) (by decide) (by decide) (by decide) (by decide) hD (pow_laid hL) (cp := mc) hMs hM hi0 hi1 (seed := seed) hwho wd og (lc := ca) hap hok fuel
 refine hmet.2.mono fun e W' he => ?_
 obtain ⟨v, rfl, rfl, hsame⟩ := he
 have bel := hsame.below
 exact ⟨_, rfl, _, _, _, [], _, [], hW', trodAll_mk1 (shut_bool Tryz.underlying4 _),
  trodAll_cons_mk (Below.trod laidOut (by kernel_rfl) (of_decide_eq_true (by kernel_rfl)) h0 bel fun x hx => hlt x (by simp [hx]))
   (trodAll_cons_mk (Below.trod laidOut (by kernel_rfl) (of_decide_eq_true (by kernel_rfl)) h1 bel fun x hx => hlt x (by simp [hx])) (trodAll_cons_mk (shut_int Tryz.underlying3 w2) trodAll_mk0)), rfl, bel.frame _, fun h => by cases h⟩
end ST
end
end Go.Proofs.YtenokhokboicnaaGreatDoor
