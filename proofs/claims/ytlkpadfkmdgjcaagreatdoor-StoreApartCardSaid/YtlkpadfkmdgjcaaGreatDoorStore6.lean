/-
Lemmas for the statements of this seat: no statement of the seat is proved in this part (6 of 7); the conditions stand in each theorem.
-/
import Derived.Test.YtlkpadfkmdgjcaaGreatDoorStore5
import Derived.Test.YtlkpadfkmdgjcaaGreatDoorProg
import Derived.DeepKeys
import Derived.Laws.StructEq
section
set_option linter.unusedSimpArgs false
set_option linter.unusedVariables false
namespace Go.Proofs.YtlkpadfkmdgjcaaGreatDoor
open Go Go.Ev
set_option linter.unusedVariables false
set_option linter.unusedSimpArgs false
set_option maxRecDepth 100000
attribute [local irreducible] kO kB kStr kInt kN kG kIf kfld kld kldN kst knew kmap kbld kbldS kext kcnv klenStr klen kcap kprt kprtN kbool kint kstr keq kun ksl kix kiv kta kmk kmm ksem ksemU kextf kcallV kcallM kcall kL

theorem smallS_spec {n : Nat} (hn : n < 100) (w : World) : Meets Tryz.prog 239 #[.int .i64 n] w fun v w' => (∃ s, v = .string s) ∧ w' = w := by
  refine f239_ok ?_
  unfold f239
  rw [kint_lss, kB_bool]
  refine kIf_dec (fun h => ?_) (fun h => ?_)
  · rw [kint_add, wrap_i64 (by omega) (by omega), ksl_string rfl rfl]
    have hsz : (⟨#[48, 49, 50, 51, 52, 53, 54, 55, 56, 57, 97, 98, 99, 100, 101, 102, 103, 104, 105, 106, 107, 108, 109, 110, 111, 112, 113, 114, 115, 116, 117, 118, 119, 120, 121, 122]⟩ : ByteArray).size = 36 := rfl
    refine kG_of (by simp only [loV_int, hiV_int, hsz]; omega) ?_
    exact ⟨⟨_, rfl⟩, rfl⟩
  · unfold f239_0
    rw [kint_mul, wrap_i64 (by omega) (by omega), kint_mul, wrap_i64 (by omega) (by omega), kint_add, wrap_i64 (by omega) (by omega), ksl_string rfl rfl]
    refine kG_of ?_ ?_
    · simp only [loV_int, hiV_int]
      refine ⟨by omega, by omega, ?_⟩
      show (n : Int) * 2 + 2 ≤ ((200 : Nat) : Int)
      omega
    exact ⟨⟨_, rfl⟩, rfl⟩
theorem itoaS_spec {n : Nat} (hn : n < 100) (w : World) : Meets Tryz.prog 170 #[.int .i64 n] w fun v w' => (∃ s, v = .string s) ∧ w' = w := by
  have h2 : Meets Tryz.prog 229 #[.int .i64 n, .int .i64 10] w fun v w' => (∃ s, v = .string s) ∧ w' = w := by
    refine f229_ok ?_
    unfold f229
    rw [kint_eql, kB_bool]
    refine kIf_dec (fun _ => ?_) (fun h => absurd rfl h)
    rw [kint_leq, kB_bool]
    refine kIf_dec (fun _ => ?_) (fun h => absurd (by omega) h)
    rw [kint_lss]
    unfold f229_0
    rw [kB_bool]
    refine kIf_dec (fun _ => ?_) (fun h => absurd (by omega) h)
    refine kcall_of (smallS_spec hn w) ?_
    rintro v w' h
    exact h
  have h3 : Meets Tryz.prog 202 #[.int .i64 n] w fun v w' => (∃ s, v = .string s) ∧ w' = w := by
    refine f202_ok ?_
    unfold f202
    refine kcall_of h2 ?_
    rintro v w' h
    exact h
  refine f170_ok ?_
  unfold f170
  refine kcall_of h3 ?_
  rintro v w' h
  exact h
theorem named_spec {s : ByteArray} (h : NameOk s) (f : Value) (kd : Value) {n : Nat} (hn : n < 100) (w : World) : Meets Tryz.prog 169 #[f, .string s, .bool false, kd, .int .i64 n] w fun v w' => v = .tuple #[] ∧ Same w w' := by
  refine f169_ok ?_
  unfold f169
  refine kcall_of (itoaS_spec hn w) ?_
  rintro v w2 ⟨⟨s2, rfl⟩, rfl⟩
  refine kcall_of (isName_spec h _) ?_
  rintro v w4 ⟨rfl, h4⟩
  refine not_at ?_
  refine kB_at ?_
  refine kIf_F rfl ?_
  refine kB_at ?_
  refine kIf_F rfl ?_
  exact ⟨rfl, h4⟩
theorem isClean_spec {nm : ByteArray} {rb : Bool} {d : Nat} (h1 : 1 ≤ d) (h4 : d ≤ 4) (w : World) : Meets Tryz.prog 171 #[.agg #[.string nm, .int .i64 d, .bool rb, .int .i64 0, .int .i64 0, .int .i64 0, .int .i64 0]] w fun v w' => v = .bool true ∧ Same w w' := by
  refine f171_ok ?_
  unfold f171
  refine knew_of fun w2 hm2 hs2 hb2 => ?_
  have hb2 : blk w2 w.heap.size = some (.cells #[.string nm, .int .i64 d, .bool rb, .int .i64 0, .int .i64 0, .int .i64 0, .int .i64 0] 132) := hb2
  repeat (first | refine kN_at ?_ | refine kB_at ?_ | refine kfld_of ?_ | refine kext_at rfl ?_ | refine kld_at hb2 rfl ?_ | refine kldN_at hb2 rfl (by omega) ?_ | refine kG_of (by first | exact rfl | omega) ?_ | refine klen_at ?_ | refine eql_at ?_ | refine neq_at ?_ | refine lss_at ?_ | refine leq_at ?_ | refine gtr_at ?_ | refine geq_at ?_ | refine add_at (by omega) (by omega) ?_ | refine sub_at (by omega) (by omega) ?_ | refine not_at ?_ | refine kO_at ?_ | refine kprt_at rfl ?_ | refine kprtN_at rfl ?_ | refine kcap_at ?_ | refine klenStr_at ?_ | refine kN_iat ?_ | refine kN_fat ?_ | refine kIf_T (by first | exact rfl | exact decT (by omega) | exact notT (decF (by omega))) ?_ | refine kIf_F (by first | exact rfl | exact decF (by omega) | exact notF (decT (by omega))) ?_)
  refine ksl_arr_lo (n := d) (by omega) ?_
  have hsl : SlIs w2 (some ⟨w.heap.size, if 4 = d then 0 + 3 else 0 + 3 + d * 1, none⟩) (List.replicate (4 - d) (0 : Int)).length 1 ((List.replicate (4 - d) (0 : Int)).map (Value.int .i64)) := by
    refine ⟨by simp, ?_⟩
    by_cases h : 4 = d
    · left; simp; omega
    · refine .inr ⟨_, _, _, _, _, rfl, hb2, ?_⟩
      rw [if_neg h]
      have : d = 1 ∨ d = 2 ∨ d = 3 := by omega
      rcases this with rfl | rfl | rfl <;> rfl
  have hrl : (List.replicate (4 - d) (0 : Int)).length = 4 - d := by simp
  refine klen_at ?_
  refine kL1_of (4 - d) (fun j x wr => x = .int .i64 j ∧ wr = w2) ⟨lI1_0 ⟨rfl, rfl⟩, fun x wr hx => ?_⟩
  obtain ⟨j, hj, ⟨rfl, rfl⟩, hJ⟩ := lI1_step hx
  unfold f171_0
  refine lss_at ?_
  refine kB_at ?_
  refine kIf_dec (fun hlt => ?_) (fun hge => ?_)
  · have hlt : j < 4 - d := by omega
    unfold f171_1
    refine kixld_of (F := Value.int .i64) (l := List.replicate (4 - d) (0 : Int)) hsl (by omega) rfl ?_ |> fun h => by rw [hrl] at h; exact h
    rw [List.getElem_replicate]
    refine neq_at ?_
    rw [decF (by omega)]
    refine kB_at ?_
    refine kIf_F rfl ?_
    unfold f171_2
    repeat (first | refine kN_at ?_ | refine kB_at ?_ | refine kfld_of ?_ | refine kext_at rfl ?_ | refine kG_of (by first | exact rfl | omega) ?_ | refine klen_at ?_ | refine eql_at ?_ | refine neq_at ?_ | refine lss_at ?_ | refine leq_at ?_ | refine gtr_at ?_ | refine geq_at ?_ | refine add_at (by omega) (by omega) ?_ | refine sub_at (by omega) (by omega) ?_ | refine not_at ?_ | refine kO_at ?_ | refine kprt_at rfl ?_ | refine kprtN_at rfl ?_ | refine kcap_at ?_ | refine klenStr_at ?_ | refine kN_iat ?_ | refine kN_fat ?_ | refine kIf_T (by first | exact rfl | exact decT (by omega) | exact notT (decF (by omega))) ?_ | refine kIf_F (by first | exact rfl | exact decF (by omega) | exact notF (decT (by omega))) ?_)
    rw [cast_succ]
    exact hJ _ _ hlt ⟨rfl, rfl⟩
  · exact ⟨rfl, hm2⟩
theorem component_spec {w : World} {a : Option Addr} {L : List Comp} {cp : Nat} {ra : Option Addr} {rn rc : Nat} (hs : SlIs w a L.length 7 (L.flatMap Comp.cells)) (hG : GoodSc L) {k : Nat} (hk : k < L.length) (f : Value) :
    Meets Tryz.prog 129 #[f, scV a L.length cp (.slice ra rn rc), .int .i64 k] w fun v w' => v = .tuple #[] ∧ Same w w' := by
  have hl := hG.len
  have hkm := List.getElem_mem hk
  obtain ⟨d, hd, hd1, hd4⟩ := hG.wide _ hkm
  rw [scV]
  refine f129_ok ?_
  unfold f129
  refine knew_of fun w2 hm2 hs2 hb2 => ?_
  have hb2 : blk w2 w.heap.size = some (.cells #[.slice a L.length cp, .slice ra rn rc] 34) := hb2
  repeat (first | refine kN_at ?_ | refine kB_at ?_ | refine kfld_of ?_ | refine kext_at rfl ?_ | refine kld_at hb2 rfl ?_ | refine kldN_at hb2 rfl (by omega) ?_ | refine kG_of (by first | exact rfl | omega) ?_ | refine klen_at ?_ | refine eql_at ?_ | refine neq_at ?_ | refine lss_at ?_ | refine leq_at ?_ | refine gtr_at ?_ | refine geq_at ?_ | refine add_at (by omega) (by omega) ?_ | refine sub_at (by omega) (by omega) ?_ | refine not_at ?_ | refine kO_at ?_ | refine kprt_at rfl ?_ | refine kprtN_at rfl ?_ | refine kcap_at ?_ | refine klenStr_at ?_ | refine kN_iat ?_ | refine kN_fat ?_ | refine kIf_T (by first | exact rfl | exact decT (by omega) | exact notT (decF (by omega))) ?_ | refine kIf_F (by first | exact rfl | exact decF (by omega) | exact notF (decT (by omega))) ?_)
  refine kixldN_of (F := Comp.cells) (sz := 7) (fun _ => rfl) (by omega) (hs.same hm2) hk rfl ?_
  refine knew_of fun w8 h8 hs8 hb8 => ?_
  refine kst_of (vs := (L[k]).cells) hb8 rfl rfl rfl (by simp) (by simp [Comp.cells]) fun w9 h9 hs9 hb9 => ?_
  have hb9 : blk w9 w2.heap.size = some (.cells (L[k]).cells.toArray 132) := hb9
  have hb9' : blk w9 w2.heap.size = some (.cells #[.string (L[k]).name, .int .i64 d, .bool (L[k]).rb, .int .i64 0, .int .i64 0, .int .i64 0, .int .i64 0] 132) := by
    obtain ⟨z0, z1, z2, z3⟩ := hG.zero _ hkm
    rw [hb9]; simp [Comp.cells, hd, z0, z1, z2, z3]
  have hb29 := h9.get (h8.get hb2 (fun h => h)) (by omega)
  have m9 : Same w w9 := (hm2.trans h8).trans' (h9.mono fun k _ e => .inr (by omega))
  repeat (first | refine kN_at ?_ | refine kB_at ?_ | refine kfld_of ?_ | refine kext_at rfl ?_ | refine kld_at hb29 rfl ?_ | refine kld_at hb9' rfl ?_ | refine kldN_at hb29 rfl (by omega) ?_ | refine kldN_at hb9' rfl (by omega) ?_ | refine kG_of (by first | exact rfl | omega) ?_ | refine klen_at ?_ | refine eql_at ?_ | refine neq_at ?_ | refine lss_at ?_ | refine leq_at ?_ | refine gtr_at ?_ | refine geq_at ?_ | refine add_at (by omega) (by omega) ?_ | refine sub_at (by omega) (by omega) ?_ | refine not_at ?_ | refine kO_at ?_ | refine kprt_at rfl ?_ | refine kprtN_at rfl ?_ | refine kcap_at ?_ | refine klenStr_at ?_ | refine kN_iat ?_ | refine kN_fat ?_ | refine kIf_T (by first | exact rfl | exact decT (by omega) | exact notT (decF (by omega))) ?_ | refine kIf_F (by first | exact rfl | exact decF (by omega) | exact notF (decT (by omega))) ?_)
  have hfs := find_spec (ra := ra) (rn := rn) (rc := rc) (cp := cp) (hs.same m9) hG hk
  rw [scV] at hfs
  refine kcall_of hfs ?_
  rintro v w14 ⟨rfl, h14⟩
  have hb14 := h14.get hb9' (fun h => h)
  repeat (first | refine kN_at ?_ | refine kB_at ?_ | refine kfld_of ?_ | refine kext_at rfl ?_ | refine kld_at hb14 rfl ?_ | refine kldN_at hb14 rfl (by omega) ?_ | refine kG_of (by first | exact rfl | omega) ?_ | refine klen_at ?_ | refine eql_at ?_ | refine neq_at ?_ | refine lss_at ?_ | refine leq_at ?_ | refine gtr_at ?_ | refine geq_at ?_ | refine add_at (by omega) (by omega) ?_ | refine sub_at (by omega) (by omega) ?_ | refine not_at ?_ | refine kO_at ?_ | refine kprt_at rfl ?_ | refine kprtN_at rfl ?_ | refine kcap_at ?_ | refine klenStr_at ?_ | refine kN_iat ?_ | refine kN_fat ?_ | refine kIf_T (by first | exact rfl | exact decT (by omega) | exact notT (decF (by omega))) ?_ | refine kIf_F (by first | exact rfl | exact decF (by omega) | exact notF (decT (by omega))) ?_)
  rw [decF (show ¬ (k : Int) < (k : Int) by omega)]
  refine kcall_of (named_spec (hG.names _ hkm) f _ (by omega) w14) ?_
  rintro v w22 ⟨rfl, h22⟩
  have hb22 := h22.get hb14 (fun h => h)
  unfold f129_0
  refine kcall_of (itoaS_spec (by omega) w22) ?_
  rintro v w24 ⟨⟨s2, rfl⟩, rfl⟩
  repeat (first | refine kN_at ?_ | refine kB_at ?_ | refine kfld_of ?_ | refine kext_at rfl ?_ | refine kld_at hb22 rfl ?_ | refine kldN_at hb22 rfl (by omega) ?_ | refine kG_of (by first | exact rfl | omega) ?_ | refine klen_at ?_ | refine eql_at ?_ | refine neq_at ?_ | refine lss_at ?_ | refine leq_at ?_ | refine gtr_at ?_ | refine geq_at ?_ | refine add_at (by omega) (by omega) ?_ | refine sub_at (by omega) (by omega) ?_ | refine not_at ?_ | refine kO_at ?_ | refine kprt_at rfl ?_ | refine kprtN_at rfl ?_ | refine kcap_at ?_ | refine klenStr_at ?_ | refine kN_iat ?_ | refine kN_fat ?_ | refine kIf_T (by first | exact rfl | exact decT (by omega) | exact notT (decF (by omega))) ?_ | refine kIf_F (by first | exact rfl | exact decF (by omega) | exact notF (decT (by omega))) ?_)
  refine kcall_of (isClean_spec hd1 hd4 _) ?_
  rintro v w39 ⟨rfl, h39⟩
  refine not_at ?_
  refine kB_at ?_
  refine kIf_F rfl ?_
  exact ⟨rfl, ((m9.trans h14).trans h22).trans h39⟩
end Go.Proofs.YtlkpadfkmdgjcaaGreatDoor
end
section
set_option linter.unusedSimpArgs false
set_option linter.unusedVariables false
namespace Go.Proofs.YtlkpadfkmdgjcaaGreatDoor
open Go Go.Ev
set_option linter.unusedVariables false
set_option linter.unusedSimpArgs false
set_option maxRecDepth 100000
attribute [local irreducible] kO kB kStr kInt kN kG kIf kfld kld kldN kst knew kmap kbld kbldS kext kcnv klenStr klen kcap kprt kprtN kbool kint kstr keq kun ksl kix kiv kta kmk kmm ksem ksemU kextf kcallV kcallM kcall kL

theorem check_spec {w : World} {a : Option Addr} {L : List Comp} {cp : Nat} {ra : Option Addr} {rc : Nat} (hs : SlIs w a L.length 7 (L.flatMap Comp.cells)) (hG : GoodSc L) :
    Meets Tryz.prog 67 #[scV a L.length cp (.slice ra 0 rc)] w fun v w' => v = .nilIface ∧ Same w w' := by
  have hl := hG.len
  rw [scV]
  refine f67_ok ?_
  unfold f67
  refine knew_of fun w2 hm2 hs2 hb2 => ?_
  have hb2 : blk w2 w.heap.size = some (.cells #[.slice a L.length cp, .slice ra 0 rc] 34) := hb2
  refine kbld_of (cs := [.slice none 0 0]) rfl ?_
  refine knew_of fun w5 hm5 hs5 hb5 => ?_
  have hb25 := hm5.get hb2 (fun h => h)
  have m5 := hm2.trans hm5
  repeat (first | refine kN_at ?_ | refine kB_at ?_ | refine kfld_of ?_ | refine kext_at rfl ?_ | refine kld_at hb25 rfl ?_ | refine kldN_at hb25 rfl (by omega) ?_ | refine kG_of (by first | exact rfl | omega) ?_ | refine klen_at ?_ | refine eql_at ?_ | refine neq_at ?_ | refine lss_at ?_ | refine leq_at ?_ | refine gtr_at ?_ | refine geq_at ?_ | refine add_at (by omega) (by omega) ?_ | refine sub_at (by omega) (by omega) ?_ | refine not_at ?_ | refine kO_at ?_ | refine kprt_at rfl ?_ | refine kprtN_at rfl ?_ | refine kcap_at ?_ | refine klenStr_at ?_ | refine kN_iat ?_ | refine kN_fat ?_ | refine kIf_T (by first | exact rfl | exact decT (by omega) | exact notT (decF (by omega))) ?_ | refine kIf_F (by first | exact rfl | exact decF (by omega) | exact notF (decT (by omega))) ?_)
  refine kL1_of L.length (fun j x wr => x = .int .i64 j ∧ Same w5 wr) ⟨lI1_0 ⟨rfl, Mod.refl _ _⟩, fun x wr hx => ?_⟩
  obtain ⟨j, hj, ⟨rfl, hm⟩, hJ⟩ := lI1_step hx
  have hbr := hm.get hb25 (fun h => h)
  have h5r := hm.get hb5 (fun h => h)
  unfold f67_1
  refine lss_at ?_
  refine kB_at ?_
  refine kIf_dec (fun hlt => ?_) (fun hge => ?_)
  · have hlt : j < L.length := by omega
    unfold f67_2
    repeat (first | refine kN_at ?_ | refine kB_at ?_ | refine kfld_of ?_ | refine kext_at rfl ?_ | refine kld_at hbr rfl ?_ | refine kldN_at hbr rfl (by omega) ?_ | refine kG_of (by first | exact rfl | omega) ?_ | refine klen_at ?_ | refine eql_at ?_ | refine neq_at ?_ | refine lss_at ?_ | refine leq_at ?_ | refine gtr_at ?_ | refine geq_at ?_ | refine add_at (by omega) (by omega) ?_ | refine sub_at (by omega) (by omega) ?_ | refine not_at ?_ | refine kO_at ?_ | refine kprt_at rfl ?_ | refine kprtN_at rfl ?_ | refine kcap_at ?_ | refine klenStr_at ?_ | refine kN_iat ?_ | refine kN_fat ?_ | refine kIf_T (by first | exact rfl | exact decT (by omega) | exact notT (decF (by omega))) ?_ | refine kIf_F (by first | exact rfl | exact decF (by omega) | exact notF (decT (by omega))) ?_)
    have hcs := component_spec (ra := ra) (rn := 0) (rc := rc) (cp := cp) (hs.same (m5.trans hm)) hG hlt (.pointer (some ⟨w2.heap.size, 0, none⟩))
    rw [scV] at hcs
    refine kcall_of hcs ?_
    rintro v w23 ⟨rfl, h23⟩
    repeat (first | refine kN_at ?_ | refine kB_at ?_ | refine kfld_of ?_ | refine kext_at rfl ?_ | refine kG_of (by first | exact rfl | omega) ?_ | refine klen_at ?_ | refine eql_at ?_ | refine neq_at ?_ | refine lss_at ?_ | refine leq_at ?_ | refine gtr_at ?_ | refine geq_at ?_ | refine add_at (by omega) (by omega) ?_ | refine sub_at (by omega) (by omega) ?_ | refine not_at ?_ | refine kO_at ?_ | refine kprt_at rfl ?_ | refine kprtN_at rfl ?_ | refine kcap_at ?_ | refine klenStr_at ?_ | refine kN_iat ?_ | refine kN_fat ?_ | refine kIf_T (by first | exact rfl | exact decT (by omega) | exact notT (decF (by omega))) ?_ | refine kIf_F (by first | exact rfl | exact decF (by omega) | exact notF (decT (by omega))) ?_)
    rw [cast_succ]
    exact hJ _ _ hlt ⟨rfl, hm.trans h23⟩
  · unfold f67_4
    repeat (first | refine kN_at ?_ | refine kB_at ?_ | refine kfld_of ?_ | refine kext_at rfl ?_ | refine kld_at hbr rfl ?_ | refine kldN_at hbr rfl (by omega) ?_ | refine kG_of (by first | exact rfl | omega) ?_ | refine klen_at ?_ | refine eql_at ?_ | refine neq_at ?_ | refine lss_at ?_ | refine leq_at ?_ | refine gtr_at ?_ | refine geq_at ?_ | refine add_at (by omega) (by omega) ?_ | refine sub_at (by omega) (by omega) ?_ | refine not_at ?_ | refine kO_at ?_ | refine kprt_at rfl ?_ | refine kprtN_at rfl ?_ | refine kcap_at ?_ | refine klenStr_at ?_ | refine kN_iat ?_ | refine kN_fat ?_ | refine kIf_T (by first | exact rfl | exact decT (by omega) | exact notT (decF (by omega))) ?_ | refine kIf_F (by first | exact rfl | exact decF (by omega) | exact notF (decT (by omega))) ?_)
    refine kL1_of 0 (fun j x w1 => x = .int .i64 0 ∧ w1 = wr) ⟨lI1_0 ⟨rfl, rfl⟩, fun x w1 hx => ?_⟩
    obtain ⟨j', hj', ⟨rfl, rfl⟩, _⟩ := lI1_step hx
    unfold f67_6
    refine lss_at ?_
    refine kB_at ?_
    refine kIf_F (by simp) ?_
    unfold f67_9
    have h5r : blk w1 w2.heap.size = some (.cells #[.slice none 0 0] 213) := h5r
    repeat (first | refine kN_at ?_ | refine kB_at ?_ | refine kfld_of ?_ | refine kext_at rfl ?_ | refine kld_at h5r rfl ?_ | refine kldN_at h5r rfl (by omega) ?_ | refine kG_of (by first | exact rfl | omega) ?_ | refine klen_at ?_ | refine eql_at ?_ | refine neq_at ?_ | refine lss_at ?_ | refine leq_at ?_ | refine gtr_at ?_ | refine geq_at ?_ | refine add_at (by omega) (by omega) ?_ | refine sub_at (by omega) (by omega) ?_ | refine not_at ?_ | refine kO_at ?_ | refine kprt_at rfl ?_ | refine kprtN_at rfl ?_ | refine kcap_at ?_ | refine klenStr_at ?_ | refine kN_iat ?_ | refine kN_fat ?_ | refine kIf_T (by first | exact rfl | exact decT (by omega) | exact notT (decF (by omega))) ?_ | refine kIf_F (by first | exact rfl | exact decF (by omega) | exact notF (decT (by omega))) ?_)
    refine kcall_of (All_spec (S := fun _ => ⟨0, 0, none⟩) (d := 0) (zs := []) (SlIs.nil _ _ _) (fun p hp => by cases hp) (by simp) (by simp)) ?_
    rintro v w46 ⟨h1, h46⟩
    rcases h1.nil_iff with ⟨_, rfl⟩ | ⟨h, _⟩
    · exact ⟨rfl, (m5.trans hm).trans h46⟩
    · exact absurd rfl h
end Go.Proofs.YtlkpadfkmdgjcaaGreatDoor
end
section
set_option linter.unusedSimpArgs false
set_option linter.unusedVariables false
namespace Go.Proofs.YtlkpadfkmdgjcaaGreatDoor
open Go Go.Ev
set_option linter.unusedVariables false
set_option linter.unusedSimpArgs false
set_option maxRecDepth 100000
attribute [local irreducible] kO kB kStr kInt kN kG kIf kfld kld kldN kst knew kmap kbld kbldS kext kcnv klenStr klen kcap kprt kprtN kbool kint kstr keq kun ksl kix kiv kta kmk kmm ksem ksemU kextf kcallV kcallM kcall kL

theorem apComp : appT Tryz.prog 31 7 64 = true := by kernel_rfl
theorem slComp : isSlT Tryz.prog 31 = true := by kernel_rfl
theorem slComp_is : ∃ e, Tryz.prog.underlying 31 = some (.slice e) := slT_of (by kernel_rfl)
theorem apRes : appT Tryz.prog 32 2 24 = true := by kernel_rfl
theorem slRes : isSlT Tryz.prog 32 = true := by kernel_rfl
theorem slRes_is : ∃ e, Tryz.prog.underlying 32 = some (.slice e) := slT_of (by kernel_rfl)
theorem ones_comps : ∀ L : List Comp, oneCells (L.flatMap Comp.cells) = true
  | [] => rfl
  | q :: L => by
    rw [List.flatMap_cons]
    show oneCells (.string q.name :: .int .i64 q.width :: .bool q.rb :: .int .i64 q.d0 :: .int .i64 q.d1 :: .int .i64 q.d2 :: .int .i64 q.d3 :: L.flatMap Comp.cells) = true
    simp only [oneCells, ones_comps L]; rfl
theorem cloneC_spec {w : World} {a : Option Addr} {L : List Comp} {c : Nat} (hs : SlIs w a L.length 7 (L.flatMap Comp.cells)) (hn : L.length ≤ 1000000) :
    Meets Tryz.prog 71 #[.slice a L.length c] w fun v w' => Own w' v 7 (L.flatMap Comp.cells) ∧ Same w w' ∧ (∀ k, vblk v k → w.heap.size ≤ k) := by
  have hfl := flat_len Comp.cells 7 (fun _ => rfl) L
  refine f71_ok ?_
  unfold f71
  rw [keq_sl_nil slComp]
  cases a with
  | none =>
    have hL : L.length = 0 := by rcases hs.2 with h | ⟨_, _, _, _, _, h, _⟩; exact h; cases h
    have : L = [] := List.eq_nil_of_length_eq_zero hL
    subst this
    repeat (first | refine kN_at ?_ | refine kB_at ?_ | refine kfld_of ?_ | refine kext_at rfl ?_ | refine kG_of (by first | exact rfl | omega) ?_ | refine klen_at ?_ | refine eql_at ?_ | refine neq_at ?_ | refine lss_at ?_ | refine leq_at ?_ | refine gtr_at ?_ | refine geq_at ?_ | refine add_at (by omega) (by omega) ?_ | refine sub_at (by omega) (by omega) ?_ | refine not_at ?_ | refine kO_at ?_ | refine kprt_at rfl ?_ | refine kprtN_at rfl ?_ | refine kcap_at ?_ | refine klenStr_at ?_ | refine kN_iat ?_ | refine kN_fat ?_ | refine kIf_T (by first | exact rfl | exact decT (by omega) | exact notT (decF (by omega))) ?_ | refine kIf_F (by first | exact rfl | exact decF (by omega) | exact notF (decT (by omega))) ?_)
    exact ⟨Own.nil _ _, Mod.refl _ _, fun b hb => by obtain ⟨_, _, _, h⟩ := hb; cases h⟩
  | some a =>
    repeat (first | refine kN_at ?_ | refine kB_at ?_ | refine kfld_of ?_ | refine kext_at rfl ?_ | refine kG_of (by first | exact rfl | omega) ?_ | refine klen_at ?_ | refine eql_at ?_ | refine neq_at ?_ | refine lss_at ?_ | refine leq_at ?_ | refine gtr_at ?_ | refine geq_at ?_ | refine add_at (by omega) (by omega) ?_ | refine sub_at (by omega) (by omega) ?_ | refine not_at ?_ | refine kO_at ?_ | refine kprt_at rfl ?_ | refine kprtN_at rfl ?_ | refine kcap_at ?_ | refine klenStr_at ?_ | refine kN_iat ?_ | refine kN_fat ?_ | refine kIf_T (by first | exact rfl | exact decT (by omega) | exact notT (decF (by omega))) ?_ | refine kIf_F (by first | exact rfl | exact decF (by omega) | exact notF (decT (by omega))) ?_)
    unfold f71_0
    refine kbldS_of (cs := []) rfl fun w5 h5 hs5 hb5 => ?_
    refine ksem_append apComp (by omega) (vs := []) (Own.blk hb5 (n := 0) (by simp) (by simp [maxLen])) (Src.ofSlIs (hk := slComp_is.choose_spec) c (hs.same h5) (ones_comps L)) (by simp [hfl]; omega) (by simp [hfl]; omega) ?_
    intro v' w' ho hm hf
    refine ⟨by simpa using ho, Mod.after h5 hm (fun b hb => by rw [vblk_new hb]; exact Nat.le_refl _), fun b hb => ?_⟩
    rcases hf b hb with h | h
    · rw [vblk_new h]; exact Nat.le_refl _
    · omega
theorem cloneR_spec {w : World} {a : Option Addr} {c : Nat} :
    Meets Tryz.prog 72 #[.slice a 0 c] w fun v w' => (∃ a' n' c', v = .slice a' n' c') ∧ Same w w' := by
  refine f72_ok ?_
  unfold f72
  rw [keq_sl_nil slRes]
  cases a with
  | none =>
    repeat (first | refine kN_at ?_ | refine kB_at ?_ | refine kfld_of ?_ | refine kext_at rfl ?_ | refine kG_of (by first | exact rfl | omega) ?_ | refine klen_at ?_ | refine eql_at ?_ | refine neq_at ?_ | refine lss_at ?_ | refine leq_at ?_ | refine gtr_at ?_ | refine geq_at ?_ | refine add_at (by omega) (by omega) ?_ | refine sub_at (by omega) (by omega) ?_ | refine not_at ?_ | refine kO_at ?_ | refine kprt_at rfl ?_ | refine kprtN_at rfl ?_ | refine kcap_at ?_ | refine klenStr_at ?_ | refine kN_iat ?_ | refine kN_fat ?_ | refine kIf_T (by first | exact rfl | exact decT (by omega) | exact notT (decF (by omega))) ?_ | refine kIf_F (by first | exact rfl | exact decF (by omega) | exact notF (decT (by omega))) ?_)
    exact ⟨⟨_, _, _, rfl⟩, Mod.refl _ _⟩
  | some a =>
    repeat (first | refine kN_at ?_ | refine kB_at ?_ | refine kfld_of ?_ | refine kext_at rfl ?_ | refine kG_of (by first | exact rfl | omega) ?_ | refine klen_at ?_ | refine eql_at ?_ | refine neq_at ?_ | refine lss_at ?_ | refine leq_at ?_ | refine gtr_at ?_ | refine geq_at ?_ | refine add_at (by omega) (by omega) ?_ | refine sub_at (by omega) (by omega) ?_ | refine not_at ?_ | refine kO_at ?_ | refine kprt_at rfl ?_ | refine kprtN_at rfl ?_ | refine kcap_at ?_ | refine klenStr_at ?_ | refine kN_iat ?_ | refine kN_fat ?_ | refine kIf_T (by first | exact rfl | exact decT (by omega) | exact notT (decF (by omega))) ?_ | refine kIf_F (by first | exact rfl | exact decF (by omega) | exact notF (decT (by omega))) ?_)
    unfold f72_0
    refine kbldS_of (cs := []) rfl fun w5 h5 hs5 hb5 => ?_
    refine ksem_append apRes (by omega) (vs := []) (Own.blk hb5 (n := 0) (by simp) (by simp [maxLen])) (Src.ofSlIs (hk := slRes_is.choose_spec) c (SlIs.nil _ _ _) rfl) (by simp) (by simp) ?_
    intro v' w' ho hm hf
    obtain ⟨a', n', c', rfl, _⟩ := ho.is
    exact ⟨⟨_, _, _, rfl⟩, Mod.after h5 hm (fun b hb => by rw [vblk_new hb]; exact Nat.le_refl _)⟩
end Go.Proofs.YtlkpadfkmdgjcaaGreatDoor
end
section
set_option linter.unusedSimpArgs false
set_option linter.unusedVariables false
namespace Go.Proofs.YtlkpadfkmdgjcaaGreatDoor
open Go Go.Ev
set_option linter.unusedVariables false
set_option linter.unusedSimpArgs false
set_option maxRecDepth 100000
attribute [local irreducible] kO kB kStr kInt kN kG kIf kfld kld kldN kst knew kmap kbld kbldS kext kcnv klenStr klen kcap kprt kprtN kbool kint kstr keq kun ksl kix kiv kta kmk kmm ksem ksemU kextf kcallV kcallM kcall kL

/-! ### A new store -/
def newS0 (L : List Comp) (most : Nat) : SM := ⟨List.replicate most (0, false), (List.range most).reverse, L, [0], [], List.replicate most (0, 0)⟩
def newS (L : List Comp) (most : Nat) : SM := layS (newS0 L most) 1
theorem newS_gs {L : List Comp} {most : Nat} (h : most ≤ 64) : GS (newS L most) 0 := by
  have hd : ∀ (i : Nat) (x : Int × Bool), (List.replicate most ((0 : Int), false))[i]? = some x → x = (0, false) := fun i x e => by
    obtain ⟨_, e⟩ := List.getElem?_eq_some_iff.1 e
    rw [List.getElem_replicate] at e; exact e.symm
  refine ⟨⟨by simp [newS, newS0, layS], fun i g hg _ => ?_, fun n T r e hT hr => ?_, fun n T c hT hc => ?_⟩, ⟨?_, fun i => ?_⟩, fun i x hx => ?_, by simp [newS, newS0, layS], by simp [newS, newS0, layS]; exact h⟩
  · have := hd i _ hg; cases this
  · rcases layS_tabs hT with hT | rfl
    · cases hT
    · cases hr
  · rcases layS_tabs hT with hT | rfl
    · cases hT
    · rfl
  · show (List.range most).reverse.Nodup
    unfold List.Nodup
    rw [List.pairwise_reverse]
    exact List.nodup_range.imp (fun h e => h e.symm)
  · show i ∈ (List.range most).reverse ↔ ∃ g, (List.replicate most ((0 : Int), false))[i]? = some (g, false)
    rw [List.mem_reverse, List.mem_range]
    constructor
    · intro hi; exact ⟨0, by rw [List.getElem?_replicate, if_pos hi]⟩
    · rintro ⟨g, e⟩
      have := (List.getElem?_eq_some_iff.1 e).1
      simpa using this
  · have := hd i x hx
    subst this
    simp
def newLab (o : Lab) (n bc bp bS k : Nat) : Option Tag := if k < n then o k else if k = bS then some .store else if k = bp then some .spots else if k = bc then some .sch else none
theorem newS_good {L : List Comp} (hG : GoodSc L) : GoodC L := ⟨hG.len, fun q hq => by obtain ⟨d, e, h1, h4⟩ := hG.wide q hq; omega⟩
theorem sNew_spec {w : World} (hD : DeAt w) {a : Option Addr} {L : List Comp} {cp : Nat} {ra : Option Addr} {rc : Nat} (hs : SlIs w a L.length 7 (L.flatMap Comp.cells)) (hG : GoodSc L) {most : Nat} (hm : most ≤ 64) :
    Meets Tryz.prog 12 #[scV a L.length cp (.slice ra 0 rc), .int .i64 most] w fun v w' => ∃ b, v = .tuple #[ptrV b, .nilIface] ∧ ∃ o p, StoreP o w' b p (newS L most) ∧ (∀ k, k < w.heap.size → o k = none) ∧ (∀ k, w'.heap.size ≤ k → o k = none) ∧ Same w w' := by
  have hl := hG.len
  rw [scV]
  refine f12_ok ?_
  unfold f12
  refine knew_of fun w2 h2 hs2 hb2 => ?_
  have hb2 : blk w2 w.heap.size = some (.cells #[.slice a L.length cp, .slice ra 0 rc] 34) := hb2
  repeat (first | refine kN_at ?_ | refine kB_at ?_ | refine kfld_of ?_ | refine kext_at rfl ?_ | refine kld_at hb2 rfl ?_ | refine kldN_at hb2 rfl (by omega) ?_ | refine kG_of (by first | exact rfl | omega) ?_ | refine klen_at ?_ | refine eql_at ?_ | refine neq_at ?_ | refine lss_at ?_ | refine leq_at ?_ | refine gtr_at ?_ | refine geq_at ?_ | refine add_at (by omega) (by omega) ?_ | refine sub_at (by omega) (by omega) ?_ | refine not_at ?_ | refine kO_at ?_ | refine kprt_at rfl ?_ | refine kprtN_at rfl ?_ | refine kcap_at ?_ | refine klenStr_at ?_ | refine kN_iat ?_ | refine kN_fat ?_ | refine kIf_T (by first | exact rfl | exact decT (by omega) | exact notT (decF (by omega))) ?_ | refine kIf_F (by first | exact rfl | exact decF (by omega) | exact notF (decT (by omega))) ?_)
  have hck := check_spec (ra := ra) (rc := rc) (cp := cp) (hs.same h2) hG
  rw [scV] at hck
  refine kcall_of hck ?_
  rintro v w5 ⟨rfl, h5⟩
  have hb5 := h5.get hb2 (fun h => h)
  have m5 := h2.trans h5
  rw [keq_nil_nil' ifErr]
  refine kB_at ?_
  refine kIf_F rfl ?_
  unfold f12_0
  refine kcall_of (rNew_spec (fun _ => none) w5 most hm) ?_
  rintro v w11 ⟨bR, o1, rfl, hl1, hR, h11, hr1, hbR⟩
  have hb11 := h11.get hb5 (fun h => h)
  have m11 := m5.trans h11
  have hRl := hR.1
  repeat (first | refine kN_at ?_ | refine kB_at ?_ | refine kfld_of ?_ | refine kext_at rfl ?_ | refine kG_of (by first | exact rfl | omega) ?_ | refine klen_at ?_ | refine eql_at ?_ | refine neq_at ?_ | refine lss_at ?_ | refine leq_at ?_ | refine gtr_at ?_ | refine geq_at ?_ | refine add_at (by omega) (by omega) ?_ | refine sub_at (by omega) (by omega) ?_ | refine not_at ?_ | refine kO_at ?_ | refine kprt_at rfl ?_ | refine kprtN_at rfl ?_ | refine kcap_at ?_ | refine klenStr_at ?_ | refine kN_iat ?_ | refine kN_fat ?_ | refine kIf_T (by first | exact rfl | exact decT (by omega) | exact notT (decF (by omega))) ?_ | refine kIf_F (by first | exact rfl | exact decF (by omega) | exact notF (decT (by omega))) ?_)
  rw [keq_nil_nil' ifErr]
  refine kB_at ?_
  refine kIf_F rfl ?_
  unfold f12_1
  repeat (first | refine kN_at ?_ | refine kB_at ?_ | refine kfld_of ?_ | refine kext_at rfl ?_ | refine kld_at hb11 rfl ?_ | refine kldN_at hb11 rfl (by omega) ?_ | refine kG_of (by first | exact rfl | omega) ?_ | refine klen_at ?_ | refine eql_at ?_ | refine neq_at ?_ | refine lss_at ?_ | refine leq_at ?_ | refine gtr_at ?_ | refine geq_at ?_ | refine add_at (by omega) (by omega) ?_ | refine sub_at (by omega) (by omega) ?_ | refine not_at ?_ | refine kO_at ?_ | refine kprt_at rfl ?_ | refine kprtN_at rfl ?_ | refine kcap_at ?_ | refine klenStr_at ?_ | refine kN_iat ?_ | refine kN_fat ?_ | refine kIf_T (by first | exact rfl | exact decT (by omega) | exact notT (decF (by omega))) ?_ | refine kIf_F (by first | exact rfl | exact decF (by omega) | exact notF (decT (by omega))) ?_)
  have ho1 : ∀ k t, cutL o1 w11.heap.size k = some t → ¬ atlasTag t := fun k t e et => by
    unfold cutL at e
    split at e
    · rcases Nat.lt_or_ge k w5.heap.size with hk | hk
      · rw [hl1 k hk] at e; cases e
      · obtain ⟨t', e1, e2⟩ := hr1 k hk
        rw [e] at e1; cases e1
        exact tag_roll_atlas e2 et
    · cases e
  refine kcall_of (newAt_spec (cutL o1 w11.heap.size) ho1 w11 L.length hl) ?_
  rintro v w23 ⟨bA, o2, rfl, hl2, hA, h23⟩
  have hb23 := h23.get hb11 (fun h => h)
  have m23 := m11.trans h23
  have hR1 : RollAt (cutL o1 w11.heap.size) w11 bR _ _ := hR.frame (Mod.refl (fun _ => False) _) (fun _ _ _ _ h => h) (LabEq.cut w11 o1)
  have hR2 := hR1.frame h23 (fun _ _ _ _ h => h) hl2
  have hsz5 := m5.size
  have hsz11 := h11.size
  have hsz23 := h23.size
  have ho2 : ∀ k, k < w.heap.size → o2 k = none := fun k hk => by
    rw [hl2 k (by omega)]
    unfold cutL
    rw [if_pos (by omega), hl1 k (by omega)]
  have hDlt := hD.lt
  repeat (first | refine kN_at ?_ | refine kB_at ?_ | refine kfld_of ?_ | refine kext_at rfl ?_ | refine kG_of (by first | exact rfl | omega) ?_ | refine klen_at ?_ | refine eql_at ?_ | refine neq_at ?_ | refine lss_at ?_ | refine leq_at ?_ | refine gtr_at ?_ | refine geq_at ?_ | refine add_at (by omega) (by omega) ?_ | refine sub_at (by omega) (by omega) ?_ | refine not_at ?_ | refine kO_at ?_ | refine kprt_at rfl ?_ | refine kprtN_at rfl ?_ | refine kcap_at ?_ | refine klenStr_at ?_ | refine kN_iat ?_ | refine kN_fat ?_ | refine kIf_T (by first | exact rfl | exact decT (by omega) | exact notT (decF (by omega))) ?_ | refine kIf_F (by first | exact rfl | exact decF (by omega) | exact notF (decT (by omega))) ?_)
  rw [keq_nil_nil' ifErr]
  refine kB_at ?_
  refine kIf_F rfl ?_
  have fin : ∀ (bsc : Nat) (wy : World) (ca : Option Addr) (cc : Nat) (rv : Value), Same w23 wy → blk wy bsc = some (.cells #[.slice ca L.length cc, rv] 34) → SlIs wy ca L.length 7 (L.flatMap Comp.cells) → (∀ k f, ca = some ⟨k, f, none⟩ → w23.heap.size ≤ k ∧ k < wy.heap.size) → rv.oneCell' = true →
      f12_3 (.int .i64 most) (.pointer (some ⟨bR, 0, none⟩)) (ptrV bA) (.pointer (some ⟨bsc, 0, none⟩)) (fun v w' => ∃ b, v = .tuple #[ptrV b, .nilIface] ∧ ∃ o p, StoreP o w' b p (newS L most) ∧ (∀ k, k < w.heap.size → o k = none) ∧ (∀ k, w'.heap.size ≤ k → o k = none) ∧ Same w w') wy := by
    intro bsc wy ca cc rv hwy hbsc hca hcf hrv
    have hszy := hwy.size
    unfold f12_3
    have hbscd : blk wy.drew bsc = _ := hbsc
    repeat (first | refine kN_at ?_ | refine kB_at ?_ | refine kfld_of ?_ | refine kext_at rfl ?_ | refine kld_at hbscd rfl ?_ | refine kldN_at hbscd rfl (by omega) ?_ | refine kG_of (by first | exact rfl | omega) ?_ | refine klen_at ?_ | refine eql_at ?_ | refine neq_at ?_ | refine lss_at ?_ | refine leq_at ?_ | refine gtr_at ?_ | refine geq_at ?_ | refine add_at (by omega) (by omega) ?_ | refine sub_at (by omega) (by omega) ?_ | refine not_at ?_ | refine kO_at ?_ | refine kprt_at rfl ?_ | refine kprtN_at rfl ?_ | refine kcap_at ?_ | refine klenStr_at ?_ | refine kN_iat ?_ | refine kN_fat ?_ | refine kIf_T (by first | exact rfl | exact decT (by omega) | exact notT (decF (by omega))) ?_ | refine kIf_F (by first | exact rfl | exact decF (by omega) | exact notF (decT (by omega))) ?_)
    refine kmk_of (by omega) (by omega) fun w44 h44 hs44 hb44 => ?_
    have hbsc44 := h44.get hbscd (fun h => h)
    refine kG_of (kldN_at hbsc44 rfl (by omega) ⟨rfl, rfl⟩) ?_
    refine kbld_of (cs := [.pointer (some ⟨bR, 0, none⟩), .slice ca L.length cc, rv, ptrV bA, .slice none 0 0, .slice (some ⟨wy.heap.size, 0, none⟩) most most]) rfl ?_
    refine knew_of fun w47 h47 hs47 hb47 => ?_
    have hb47 : blk w47 w44.heap.size = some (.cells #[.pointer (some ⟨bR, 0, none⟩), .slice ca L.length cc, rv, ptrV bA, .slice none 0 0, .slice (some ⟨wy.heap.size, 0, none⟩) most most] 139) := hb47
    have hs44 : w44.heap.size = wy.heap.size + 1 := hs44
    have m47 : Same w23 w47 := ((hwy.trans (Mod.refl (fun _ => False) _).drew).trans h44).trans h47
    have hz : zrow (Value.agg #[.int .i64 0, .int .i64 0]).cells.toList most = (List.replicate most ((0 : Nat), (0 : Nat))).flatMap spotC := zrow_rep (F := spotC) ((0 : Nat), (0 : Nat)) most
    rw [hz] at hb44
    have hb44 : blk w44 wy.heap.size = some (.cells ((List.replicate most ((0 : Nat), (0 : Nat))).flatMap spotC).toArray 153) := hb44
    have hOs := Own.blk (h47.get hb44 (fun h => h)) (n := most) (sz := 2) (by rw [List.size_toArray, flat_len spotC 2 (fun _ => rfl), List.length_replicate]) (by simp [maxLen]; omega)
    rw [List.toList_toArray] at hOs
    generalize hbcB : (match ca with | some x => x.block | none => 0) = bcB
    have hlo : LabEq w23 o2 (newLab o2 w23.heap.size bcB wy.heap.size w44.heap.size) := fun k hk => by unfold newLab; rw [if_pos hk]
    have hl47 : newLab o2 w23.heap.size bcB wy.heap.size w44.heap.size w44.heap.size = some .store := by unfold newLab; rw [if_neg (by omega), if_pos rfl]
    have hlsp : newLab o2 w23.heap.size bcB wy.heap.size w44.heap.size wy.heap.size = some .spots := by unfold newLab; rw [if_neg (by omega), if_neg (by omega), if_pos rfl]
    have hP : StoreP (newLab o2 w23.heap.size bcB wy.heap.size w44.heap.size) w47 w44.heap.size ⟨bR, bA, ca, cc, rv, .slice none 0 0, .slice (some ⟨wy.heap.size, 0, none⟩) most most, fun _ => 0, fun _ _ => 0⟩ (newS0 L most) := {
      lab := hl47
      good := newS_good hG
      tle := by simp [newS0]
      mle := by simp [newS0]
      sle := by simp [newS0]; exact hm
      here := hb47
      roll := hR2.frame m47 (fun _ _ _ _ h => h) hlo
      atlas := hA.frame m47 (fun _ _ _ _ h => h) hlo
      sch := (hca.same (Mod.refl (fun _ => False) _).drew).same (h44.trans h47)
      schl := fun k f e => by
        have e : ca = some ⟨k, f, none⟩ := e
        obtain ⟨k1, k2⟩ := hcf k f e
        have hk : k = bcB := by rw [← hbcB, e]
        refine ⟨?_, by omega⟩
        unfold newLab
        rw [if_neg (by omega), if_neg (by omega), if_neg (by omega), if_pos hk]
      tabs := Own.nil _ _
      tabsl := fun k e => by obtain ⟨_, _, _, e⟩ := e; cases e
      spots := hOs
      spotsl := fun k e => by obtain ⟨_, _, _, e⟩ := e; cases e; exact hlsp
      tab := fun i hi => by simp [newS0] at hi }
    have hDn : newLab o2 w23.heap.size bcB wy.heap.size w44.heap.size 18 = none := by
      unfold newLab
      rw [if_pos (by omega)]
      exact ho2 _ (by omega)
    have h47' : Same w w47 := m23.trans m47
    refine kcall_of (sLay_spec (hD.same h47') hP hDn) ?_
    rintro v w49 ⟨rfl, o4, p4, hl4, hP4, hm4, hc4⟩
    have hn : ∀ k, k < w.heap.size → newLab o2 w23.heap.size bcB wy.heap.size w44.heap.size k = none := fun k hk => by
      unfold newLab
      rw [if_pos (by omega)]
      exact ho2 k hk
    have hsz47 := h47'.size
    refine ⟨w44.heap.size, rfl, o4, p4, hP4, fun k hk => by rw [hl4 k (by omega)]; exact hn k hk, hc4, h47'.trans' (hm4.mono fun k _ ⟨t, e1, _⟩ => .inr ?_)⟩
    rcases Nat.lt_or_ge k w.heap.size with hk | hk
    · rw [hn k hk] at e1; cases e1
    · exact hk
  have hbd : blk w23.drew w.heap.size = some (.cells #[.slice a L.length cp, .slice ra 0 rc] 34) := hb23
  have md : Same w23 w23.drew := (Mod.refl (fun _ => False) _).drew
  have hsd := (hs.same m23).same md
  unfold f12_2
  refine ⟨?_, ?_⟩
  · repeat (first | refine kN_at ?_ | refine kB_at ?_ | refine kfld_of ?_ | refine kext_at rfl ?_ | refine kld_at hbd rfl ?_ | refine kldN_at hbd rfl (by omega) ?_ | refine kG_of (by first | exact rfl | omega) ?_ | refine klen_at ?_ | refine eql_at ?_ | refine neq_at ?_ | refine lss_at ?_ | refine leq_at ?_ | refine gtr_at ?_ | refine geq_at ?_ | refine add_at (by omega) (by omega) ?_ | refine sub_at (by omega) (by omega) ?_ | refine not_at ?_ | refine kO_at ?_ | refine kprt_at rfl ?_ | refine kprtN_at rfl ?_ | refine kcap_at ?_ | refine klenStr_at ?_ | refine kN_iat ?_ | refine kN_fat ?_ | refine kIf_T (by first | exact rfl | exact decT (by omega) | exact notT (decF (by omega))) ?_ | refine kIf_F (by first | exact rfl | exact decF (by omega) | exact notF (decT (by omega))) ?_)
    refine kcall_of (cloneC_spec hsd (by omega)) ?_
    rintro v w33 ⟨hO, h33, hf⟩
    obtain ⟨ca, cn, cc, rfl, hcs, _⟩ := hO.is
    have hcn : cn = L.length := by
      have := hcs.1
      rw [flat_len Comp.cells 7 (fun _ => rfl)] at this
      omega
    subst hcn
    have hb33 := h33.get hbd (fun h => h)
    have hfk : ∀ k f, ca = some ⟨k, f, none⟩ → w23.heap.size ≤ k ∧ k < w33.heap.size := fun k f e => by
      have hv : vblk (.slice ca L.length cc) k := ⟨f, _, _, by rw [e]⟩
      exact ⟨hf k hv, hO.vblk_lt hv⟩
    refine ⟨?_, ?_⟩
    · repeat (first | refine kN_at ?_ | refine kB_at ?_ | refine kfld_of ?_ | refine kext_at rfl ?_ | refine kld_at hb33 rfl ?_ | refine kldN_at hb33 rfl (by omega) ?_ | refine kG_of (by first | exact rfl | omega) ?_ | refine klen_at ?_ | refine eql_at ?_ | refine neq_at ?_ | refine lss_at ?_ | refine leq_at ?_ | refine gtr_at ?_ | refine geq_at ?_ | refine add_at (by omega) (by omega) ?_ | refine sub_at (by omega) (by omega) ?_ | refine not_at ?_ | refine kO_at ?_ | refine kprt_at rfl ?_ | refine kprtN_at rfl ?_ | refine kcap_at ?_ | refine klenStr_at ?_ | refine kN_iat ?_ | refine kN_fat ?_ | refine kIf_T (by first | exact rfl | exact decT (by omega) | exact notT (decF (by omega))) ?_ | refine kIf_F (by first | exact rfl | exact decF (by omega) | exact notF (decT (by omega))) ?_)
      refine kG_of (kld_at hbd rfl ⟨rfl, rfl⟩) ?_
      refine kcall_of cloneR_spec ?_
      rintro v w37 ⟨⟨a', n', c', rfl⟩, h37⟩
      refine knew_of fun w39 h39 hs39 hb39 => ?_
      have hb39' := h39.get (h37.get hb33 (fun h => h)) (fun h => h)
      refine kG_of (kld_at hb39' rfl ⟨rfl, rfl⟩) ?_
      refine kG_of (kld_at hb39' rfl ⟨rfl, rfl⟩) ?_
      refine kbld_of (cs := [.slice ca L.length cc, .slice a' n' c']) rfl ?_
      refine kst_of (vs := [.slice ca L.length cc, .slice a' n' c']) hb39 rfl rfl rfl (by simp) (by simp) fun w41 h41 hs41 hb41 => ?_
      have m41 : Same w33 w41 := (h37.trans h39).trans' (h41.mono fun k _ e => .inr (by have := h37.size; omega))
      exact fin _ w41 ca cc _ ((md.trans h33).trans m41) hb41 (hcs.same m41) (fun k f e => by have := hfk k f e; have := m41.size; omega) rfl
    · refine knew_of fun w39 h39 hs39 hb39 => ?_
      have hb39' := h39.get hb33 (fun h => h)
      refine kG_of (kld_at hb39' rfl ⟨rfl, rfl⟩) ?_
      repeat (first | refine kN_at ?_ | refine kB_at ?_ | refine kfld_of ?_ | refine kext_at rfl ?_ | refine kld_at hb39' rfl ?_ | refine kldN_at hb39' rfl (by omega) ?_ | refine kG_of (by first | exact rfl | omega) ?_ | refine klen_at ?_ | refine eql_at ?_ | refine neq_at ?_ | refine lss_at ?_ | refine leq_at ?_ | refine gtr_at ?_ | refine geq_at ?_ | refine add_at (by omega) (by omega) ?_ | refine sub_at (by omega) (by omega) ?_ | refine not_at ?_ | refine kO_at ?_ | refine kprt_at rfl ?_ | refine kprtN_at rfl ?_ | refine kcap_at ?_ | refine klenStr_at ?_ | refine kN_iat ?_ | refine kN_fat ?_ | refine kIf_T (by first | exact rfl | exact decT (by omega) | exact notT (decF (by omega))) ?_ | refine kIf_F (by first | exact rfl | exact decF (by omega) | exact notF (decT (by omega))) ?_)
      refine kG_of (kld_at hb33 rfl ⟨rfl, rfl⟩) ?_
      refine kG_of (kld_at hbd rfl ⟨rfl, rfl⟩) ?_
      refine kcall_of cloneR_spec ?_
      rintro v w37 ⟨⟨a', n', c', rfl⟩, h37⟩
      refine kbld_of (cs := [.slice ca L.length cc, .slice a' n' c']) rfl ?_
      refine kst_of (vs := [.slice ca L.length cc, .slice a' n' c']) (h37.get hb39 (fun h => h)) rfl rfl rfl (by simp) (by simp) fun w41 h41 hs41 hb41 => ?_
      have m41 : Same w33 w41 := (h39.trans h37).trans' (h41.mono fun k _ e => .inr (by omega))
      exact fin _ w41 ca cc _ ((md.trans h33).trans m41) hb41 (hcs.same m41) (fun k f e => by have := hfk k f e; have := m41.size; omega) rfl
  · refine knew_of fun w39 h39 hs39 hb39 => ?_
    have hb39' := h39.get hbd (fun h => h)
    repeat (first | refine kN_at ?_ | refine kB_at ?_ | refine kfld_of ?_ | refine kext_at rfl ?_ | refine kld_at hb39' rfl ?_ | refine kldN_at hb39' rfl (by omega) ?_ | refine kG_of (by first | exact rfl | omega) ?_ | refine klen_at ?_ | refine eql_at ?_ | refine neq_at ?_ | refine lss_at ?_ | refine leq_at ?_ | refine gtr_at ?_ | refine geq_at ?_ | refine add_at (by omega) (by omega) ?_ | refine sub_at (by omega) (by omega) ?_ | refine not_at ?_ | refine kO_at ?_ | refine kprt_at rfl ?_ | refine kprtN_at rfl ?_ | refine kcap_at ?_ | refine klenStr_at ?_ | refine kN_iat ?_ | refine kN_fat ?_ | refine kIf_T (by first | exact rfl | exact decT (by omega) | exact notT (decF (by omega))) ?_ | refine kIf_F (by first | exact rfl | exact decF (by omega) | exact notF (decT (by omega))) ?_)
    refine kG_of (kld_at hbd rfl ⟨rfl, rfl⟩) ?_
    refine kcall_of (cloneC_spec (hsd.same h39) (by omega)) ?_
    rintro v w33 ⟨hO, h33, hf⟩
    obtain ⟨ca, cn, cc, rfl, hcs, _⟩ := hO.is
    have hcn : cn = L.length := by
      have := hcs.1
      rw [flat_len Comp.cells 7 (fun _ => rfl)] at this
      omega
    subst hcn
    have hb33 := h33.get hb39' (fun h => h)
    have hfk : ∀ k f, ca = some ⟨k, f, none⟩ → w23.heap.size ≤ k ∧ k < w33.heap.size := fun k f e => by
      have hv : vblk (.slice ca L.length cc) k := ⟨f, _, _, by rw [e]⟩
      have h1 := hf k hv
      have h2 : w23.drew.heap.size = w23.heap.size := rfl
      exact ⟨by omega, hO.vblk_lt hv⟩
    repeat (first | refine kN_at ?_ | refine kB_at ?_ | refine kfld_of ?_ | refine kext_at rfl ?_ | refine kld_at hb33 rfl ?_ | refine kldN_at hb33 rfl (by omega) ?_ | refine kG_of (by first | exact rfl | omega) ?_ | refine klen_at ?_ | refine eql_at ?_ | refine neq_at ?_ | refine lss_at ?_ | refine leq_at ?_ | refine gtr_at ?_ | refine geq_at ?_ | refine add_at (by omega) (by omega) ?_ | refine sub_at (by omega) (by omega) ?_ | refine not_at ?_ | refine kO_at ?_ | refine kprt_at rfl ?_ | refine kprtN_at rfl ?_ | refine kcap_at ?_ | refine klenStr_at ?_ | refine kN_iat ?_ | refine kN_fat ?_ | refine kIf_T (by first | exact rfl | exact decT (by omega) | exact notT (decF (by omega))) ?_ | refine kIf_F (by first | exact rfl | exact decF (by omega) | exact notF (decT (by omega))) ?_)
    refine kG_of (kld_at hb39' rfl ⟨rfl, rfl⟩) ?_
    refine kG_of (kld_at hbd rfl ⟨rfl, rfl⟩) ?_
    refine kcall_of cloneR_spec ?_
    rintro v w37 ⟨⟨a', n', c', rfl⟩, h37⟩
    refine kbld_of (cs := [.slice ca L.length cc, .slice a' n' c']) rfl ?_
    refine kst_of (vs := [.slice ca L.length cc, .slice a' n' c']) (h37.get (h33.get hb39 (fun h => h)) (fun h => h)) rfl rfl rfl (by simp) (by simp) fun w41 h41 hs41 hb41 => ?_
    have m41 : Same w23 w41 := (((md.trans h39).trans h33).trans h37).trans' (h41.mono fun k _ e => .inr (by have h2 : w23.drew.heap.size = w23.heap.size := rfl; omega))
    have m33 : Mod (fun k => k = w23.heap.size) w33 w41 := (Mod.of_same h37).trans h41
    refine fin _ w41 ca cc _ m41 hb41 (hcs.mod m33 fun k f e ek => ?_) (fun k f e => by have := hfk k f e; have := m33.size; omega) rfl
    have h1 := hf k ⟨f, _, _, by rw [e]⟩
    have h2 : w23.drew.heap.size = w23.heap.size := rfl
    omega
end Go.Proofs.YtlkpadfkmdgjcaaGreatDoor
end
section
set_option linter.unusedSimpArgs false
set_option linter.unusedVariables false
namespace Go.Proofs.YtlkpadfkmdgjcaaGreatDoor
open Go Go.Ev
set_option linter.unusedVariables false
set_option linter.unusedSimpArgs false
set_option maxRecDepth 100000
attribute [local irreducible] kO kB kStr kInt kN kG kIf kfld kld kldN kst knew kmap kbld kbldS kext kcnv klenStr klen kcap kprt kprtN kbool kint kstr keq kun ksl kix kiv kta kmk kmm ksem ksemU kextf kcallV kcallM kcall kL

theorem sSet_err {Sa : Nat → Addr} {k : Nat} {w : World} {b : Nat} {idx gen c : Int} {v3 v4 v5 : Value}
    (h : ∀ w2, Same w w2 → Meets Tryz.prog 98 #[ptrV b, entV idx gen, .int .i64 c] w2 fun v w' => ∃ x, v = .tuple #[.pointer none, .int .i64 0, x] ∧ ErrX Sa k w2.heap.size x w' ∧ Same w2 w') :
    Meets Tryz.prog 32 #[ptrV b, entV idx gen, .int .i64 c, v3, v4, v5] w fun v w' => ∃ x, v = .tuple #[zPartV, x] ∧ ErrX Sa k w.heap.size x w' ∧ Same w w' := by
  refine f32_ok ?_
  unfold f32
  refine knew_of fun w2 hm2 hs2 hb2 => ?_
  have hb2 : blk w2 w.heap.size = some (.cells #[.int .i64 idx, .int .i64 gen] 37) := hb2
  refine knew_of fun w4 hm4 hs4 hb4 => ?_
  have m4 := hm2.trans hm4
  have hb2' := hm4.get hb2 (fun h => h)
  repeat (first | refine kN_at ?_ | refine kB_at ?_ | refine kfld_of ?_ | refine kext_at rfl ?_ | refine kld_at hb2' rfl ?_ | refine kldN_at hb2' rfl (by omega) ?_ | refine kG_of (by first | exact rfl | omega) ?_ | refine klen_at ?_ | refine eql_at ?_ | refine neq_at ?_ | refine lss_at ?_ | refine leq_at ?_ | refine gtr_at ?_ | refine geq_at ?_ | refine add_at (by omega) (by omega) ?_ | refine sub_at (by omega) (by omega) ?_ | refine not_at ?_ | refine kO_at ?_ | refine kprt_at rfl ?_ | refine kprtN_at rfl ?_ | refine kcap_at ?_ | refine klenStr_at ?_ | refine kN_iat ?_ | refine kN_fat ?_ | refine kIf_T (by first | exact rfl | exact decT (by omega) | exact notT (decF (by omega))) ?_ | refine kIf_F (by first | exact rfl | exact decF (by omega) | exact notF (decT (by omega))) ?_)
  refine kcall_of (h w4 m4) ?_
  rintro v w7 ⟨x, rfl, hx, h7⟩
  have m7 := m4.trans h7
  have hb7 := h7.get hb4 (fun h => h)
  obtain ⟨t, y, rfl⟩ := hx.if
  repeat (first | refine kN_at ?_ | refine kB_at ?_ | refine kfld_of ?_ | refine kext_at rfl ?_ | refine kG_of (by first | exact rfl | omega) ?_ | refine klen_at ?_ | refine eql_at ?_ | refine neq_at ?_ | refine lss_at ?_ | refine leq_at ?_ | refine gtr_at ?_ | refine geq_at ?_ | refine add_at (by omega) (by omega) ?_ | refine sub_at (by omega) (by omega) ?_ | refine not_at ?_ | refine kO_at ?_ | refine kprt_at rfl ?_ | refine kprtN_at rfl ?_ | refine kcap_at ?_ | refine klenStr_at ?_ | refine kN_iat ?_ | refine kN_fat ?_ | refine kIf_T (by first | exact rfl | exact decT (by omega) | exact notT (decF (by omega))) ?_ | refine kIf_F (by first | exact rfl | exact decF (by omega) | exact notF (decT (by omega))) ?_)
  rw [keq_if_nil' ifErr]
  repeat (first | refine kN_at ?_ | refine kB_at ?_ | refine kfld_of ?_ | refine kext_at rfl ?_ | refine kG_of (by first | exact rfl | omega) ?_ | refine klen_at ?_ | refine eql_at ?_ | refine neq_at ?_ | refine lss_at ?_ | refine leq_at ?_ | refine gtr_at ?_ | refine geq_at ?_ | refine add_at (by omega) (by omega) ?_ | refine sub_at (by omega) (by omega) ?_ | refine not_at ?_ | refine kO_at ?_ | refine kprt_at rfl ?_ | refine kprtN_at rfl ?_ | refine kcap_at ?_ | refine klenStr_at ?_ | refine kN_iat ?_ | refine kN_fat ?_ | refine kIf_T (by first | exact rfl | exact decT (by omega) | exact notT (decF (by omega))) ?_ | refine kIf_F (by first | exact rfl | exact decF (by omega) | exact notF (decT (by omega))) ?_)
  refine kbld_of (cs := [.int .i64 0, .int .i64 0, .int .i64 0, .int .i64 0, .int .i64 0, .int .i64 0]) rfl ?_
  refine kst_of (vs := [.int .i64 0, .int .i64 0, .int .i64 0, .int .i64 0, .int .i64 0, .int .i64 0]) hb7 rfl rfl rfl (by simp) (by simp) fun w20 h20 hs20 hb20 => ?_
  have hb20 : blk w20 w2.heap.size = some (.cells #[.int .i64 0, .int .i64 0, .int .i64 0, .int .i64 0, .int .i64 0, .int .i64 0] 49) := hb20
  repeat (first | refine kN_at ?_ | refine kB_at ?_ | refine kfld_of ?_ | refine kext_at rfl ?_ | refine kld_at hb20 rfl ?_ | refine kldN_at hb20 rfl (by omega) ?_ | refine kG_of (by first | exact rfl | omega) ?_ | refine klen_at ?_ | refine eql_at ?_ | refine neq_at ?_ | refine lss_at ?_ | refine leq_at ?_ | refine gtr_at ?_ | refine geq_at ?_ | refine add_at (by omega) (by omega) ?_ | refine sub_at (by omega) (by omega) ?_ | refine not_at ?_ | refine kO_at ?_ | refine kprt_at rfl ?_ | refine kprtN_at rfl ?_ | refine kcap_at ?_ | refine klenStr_at ?_ | refine kN_iat ?_ | refine kN_fat ?_ | refine kIf_T (by first | exact rfl | exact decT (by omega) | exact notT (decF (by omega))) ?_ | refine kIf_F (by first | exact rfl | exact decF (by omega) | exact notF (decT (by omega))) ?_)
  exact ⟨_, rfl, (hx.mod h20 fun k h1 h2 e => by omega).mono (by omega), m7.trans' (h20.mono fun k _ e => .inr (by omega))⟩
/-! ### A store that a function made for itself -/
structure Cur (w0 : World) (o : Lab) (w : World) (b : Nat) (p : Ptrs) (S : SM) (t : Nat) : Prop where
  sp : StoreP o w b p S
  gs : GS S t
  lo : ∀ k, k < w0.heap.size → o k = none
  hi : ∀ k, w.heap.size ≤ k → o k = none
  same : Same w0 w
theorem Cur.loc {w0 : World} {o : Lab} {w w2 : World} {b : Nat} {p : Ptrs} {S : SM} {t : Nat} (h : Cur w0 o w b p S t) (m : Same w w2) : Cur w0 o w2 b p S t :=
  ⟨h.sp.same m, h.gs, h.lo, fun k hk => h.hi k (Nat.le_trans m.size hk), h.same.trans m⟩
theorem Cur.turn {w0 : World} {o : Lab} {w w' : World} {b : Nat} {p : Ptrs} {S S' : SM} {t t' : Nat} (h : Cur w0 o w b p S t) (T : Turned o w b S' w') (hG : GS S' t') : ∃ o' p', Cur w0 o' w' b p' S' t' ∧ LabEq w o o' ∧ Mod (fun k => o k ≠ none) w w' := by
  obtain ⟨o', p', hl, hP, hm, hc⟩ := T
  have hs := h.same.size
  have hm' : Mod (fun k => o k ≠ none) w w' := hm.mono fun k _ ⟨t, e, _⟩ => by rw [e]; simp
  refine ⟨o', p', ⟨hP, hG, fun k hk => by rw [hl k (by omega)]; exact h.lo k hk, hc, h.same.trans' (hm'.mono fun k _ e => .inr ?_)⟩, hl, hm'⟩
  rcases Nat.lt_or_ge k w0.heap.size with hk | hk
  · exact absurd (h.lo k hk) e
  · exact hk
theorem Just.len {L : List (Int × Int)} {P : Nat → Int → Prop} (h : Just L P) {l : List (Int × Int)} (hn : l.Nodup) (hl : ∀ (i : Nat) (g : Int), ((i : Int), g) ∈ l ↔ P i g) (hp : ∀ e ∈ l, 0 ≤ e.1) : L.length = l.length := by
  refine ((List.perm_ext_iff_of_nodup h.1 hn).2 fun e => ?_).length_eq
  rw [h.2.2 e]
  constructor
  · rintro ⟨i, g, rfl, hP⟩; exact (hl i g).2 hP
  · intro he
    have h0 := hp e he
    refine ⟨e.1.toNat, e.2, ?_, ?_⟩
    · rw [Int.toNat_of_nonneg h0]
    · rw [← hl, Int.toNat_of_nonneg h0]; exact he
end Go.Proofs.YtlkpadfkmdgjcaaGreatDoor
end
section
set_option linter.unusedSimpArgs false
set_option linter.unusedVariables false
namespace Go.Proofs.YtlkpadfkmdgjcaaGreatDoor
open Go Go.Ev
set_option linter.unusedVariables false
set_option maxRecDepth 100000

/-! pasodoble/pasodoblelaw09.StoreMatches -/
def f3_5 (x0 : Value) (x1 : Value) (x2 : Value) (x7 : Value) (x9 : Value) (J7 : Value → World → Prop) (Q : Value → World → Prop) (w : World) : Prop :=
  kint .i64 .add x9 (.int .i64 1) fun v31 =>
  J7 v31 w

def f3_4 (x0 : Value) (x1 : Value) (x2 : Value) (x7 : Value) (x9 : Value) (J7 : Value → World → Prop) (Q : Value → World → Prop) (w : World) : Prop :=
  kix (some (.slice 24)) (some 1) x0 x9 fun v24 =>
  kld v24 w fun v25 =>
  kint .u32 .and v25 (.int .u32 255) fun v26 =>
  kcall Tryz.prog 15 #[v26, x9] w fun v27 w28 =>
  kcall Tryz.prog 14 #[x7, v27] w28 fun v29 w30 =>
  f3_5 x0 x1 x2 x7 x9 J7 Q w30

def f3_10 (x0 : Value) (x1 : Value) (x2 : Value) (x7 : Value) (x10 : Value) (x11 : Value) (x12 : Value) (J13 : Value → Value → World → Prop) (Q : Value → World → Prop) (w : World) : Prop :=
  kint .i64 .add x12 (.int .i64 1) fun v45 =>
  J13 x11 v45 w

def f3_13 (x0 : Value) (x1 : Value) (x2 : Value) (x7 : Value) (x10 : Value) (x11 : Value) (x12 : Value) (J13 : Value → Value → World → Prop) (Q : Value → World → Prop) (w : World) : Prop :=
  kint .i64 .add x11 (.int .i64 1) fun v54 =>
  f3_10 x0 x1 x2 x7 x10 v54 x12 J13 Q w

def f3_12 (x0 : Value) (x1 : Value) (x2 : Value) (x7 : Value) (x10 : Value) (x11 : Value) (x12 : Value) (x86 : Value) (J13 : Value → Value → World → Prop) (Q : Value → World → Prop) (w : World) : Prop :=
  kB x86 fun b55 => kIf b55
  (Q (.bool false) w)
  (f3_13 x0 x1 x2 x7 x10 x11 x12 J13 Q w)

def f3_11 (x0 : Value) (x1 : Value) (x2 : Value) (x7 : Value) (x10 : Value) (x11 : Value) (x12 : Value) (J13 : Value → Value → World → Prop) (Q : Value → World → Prop) (w : World) : Prop :=
  klen x10 fun v46 =>
  kint .i64 .geq x11 v46 fun v48 =>
  kB v48 fun b49 => kIf (!b49)
  (kix (some (.slice 37)) (some 2) x10 x11 fun v50 =>
  kfld 0 v50 fun v51 =>
  kld v51 w fun v52 =>
  kint .i64 .neq v52 x12 fun v53 =>
  f3_12 x0 x1 x2 x7 x10 x11 x12 v53 J13 Q w)
  (f3_12 x0 x1 x2 x7 x10 x11 x12 (.bool true) J13 Q w)

def f3_9 (x0 : Value) (x1 : Value) (x2 : Value) (x7 : Value) (x10 : Value) (x11 : Value) (x12 : Value) (x73 : Value) (J13 : Value → Value → World → Prop) (Q : Value → World → Prop) (w : World) : Prop :=
  kB x73 fun b56 => kIf b56
  (f3_10 x0 x1 x2 x7 x10 x11 x12 J13 Q w)
  (f3_11 x0 x1 x2 x7 x10 x11 x12 J13 Q w)

def f3_8 (x0 : Value) (x1 : Value) (x2 : Value) (x7 : Value) (x10 : Value) (x11 : Value) (x12 : Value) (J13 : Value → Value → World → Prop) (Q : Value → World → Prop) (w : World) : Prop :=
  kix (some (.slice 24)) (some 1) x0 x12 fun v37 =>
  kld v37 w fun v38 =>
  kint .u32 .and v38 (.int .u32 255) fun v39 =>
  kint .u32 .andNot x1 v39 fun v40 =>
  kint .u32 .neq v40 (.int .u32 0) fun v41 =>
  kB v41 fun b42 => kIf (!b42)
  (kint .u32 .and v39 x2 fun v43 =>
  kint .u32 .neq v43 (.int .u32 0) fun v44 =>
  f3_9 x0 x1 x2 x7 x10 x11 x12 v44 J13 Q w)
  (f3_9 x0 x1 x2 x7 x10 x11 x12 (.bool true) J13 Q w)

def f3_14 (x0 : Value) (x7 : Value) (x10 : Value) (x11 : Value) (Q : Value → World → Prop) (w : World) : Prop :=
  klen x10 fun v57 =>
  kint .i64 .eql x11 v57 fun v59 =>
  kB v59 fun b60 => kIf b60
  (kcall Tryz.prog 17 #[x7] w fun v61 w62 =>
  klen x0 fun v63 =>
  kint .i64 .eql v61 v63 fun v65 =>
  Q v65 w62)
  (Q (.bool false) w)

def f3_7 (x11 : Value) (x12 : Value) (x0 : Value) (x1 : Value) (x2 : Value) (x7 : Value) (x10 : Value) (J13 : Value → Value → World → Prop) (Q : Value → World → Prop) (w : World) : Prop :=
  klen x0 fun v34 =>
  kint .i64 .lss x12 v34 fun v36 =>
  kB v36 fun b66 => kIf b66
  (f3_8 x0 x1 x2 x7 x10 x11 x12 J13 Q w)
  (f3_14 x0 x7 x10 x11 Q w)

def f3_6 (x0 : Value) (x1 : Value) (x2 : Value) (x7 : Value) (Q : Value → World → Prop) (w : World) : Prop :=
  kcall Tryz.prog 16 #[x7, x1, x2] w fun v32 w33 =>
  kL fun (I : Value → Value → World → Prop) (μ : Value → Value → World → Nat) => I (.int .i64 0) (.int .i64 0) w33 ∧ ∀ (x11 x12 : Value) (w1 : World), I x11 x12 w1 →
  f3_7 x11 x12 x0 x1 x2 x7 v32 (fun y11 y12 w2 => I y11 y12 w2 ∧ μ y11 y12 w2 < μ x11 x12 w1) Q w1

def f3_3 (x9 : Value) (x0 : Value) (x1 : Value) (x2 : Value) (x7 : Value) (J7 : Value → World → Prop) (Q : Value → World → Prop) (w : World) : Prop :=
  klen x0 fun v21 =>
  kint .i64 .lss x9 v21 fun v23 =>
  kB v23 fun b67 => kIf b67
  (f3_4 x0 x1 x2 x7 x9 J7 Q w)
  (f3_6 x0 x1 x2 x7 Q w)

def f3_2 (x0 : Value) (x1 : Value) (x2 : Value) (x7 : Value) (Q : Value → World → Prop) (w : World) : Prop :=
  kL fun (I : Value → World → Prop) (μ : Value → World → Nat) => I (.int .i64 0) w ∧ ∀ (x9 : Value) (w1 : World), I x9 w1 →
  f3_3 x9 x0 x1 x2 x7 (fun y9 w2 => I y9 w2 ∧ μ y9 w2 < μ x9 w1) Q w1

def f3_1 (x0 : Value) (x1 : Value) (x2 : Value) (x7 : Value) (x8 : Value) (x31 : Value) (Q : Value → World → Prop) (w : World) : Prop :=
  kB x31 fun b68 => kIf b68
  (keq Tryz.prog .eql 28 false true x8 .nilIface w fun v19 w20 =>
  Q v19 w20)
  (f3_2 x0 x1 x2 x7 Q w)

def f3_0 (x0 : Value) (x1 : Value) (x2 : Value) (Q : Value → World → Prop) (w : World) : Prop :=
  kcall Tryz.prog 13 #[] w fun v4 w5 =>
  kcall Tryz.prog 12 #[v4, (.int .i64 64)] w5 fun v6 w7 =>
  kext v6 0 fun v8 =>
  kext v6 1 fun v9 =>
  keq Tryz.prog .eql 26 false true v8 (.pointer none) w7 fun v10 w11 =>
  kB v10 fun b12 => kIf (!b12)
  (keq Tryz.prog .neq 28 false true v9 .nilIface w11 fun v13 w14 =>
  kB v13 fun b15 => kIf (!b15)
  (klen x0 fun v16 =>
  kint .i64 .gtr v16 (.int .i64 60) fun v18 =>
  f3_1 x0 x1 x2 v8 v9 v18 Q w14)
  (f3_1 x0 x1 x2 v8 v9 (.bool true) Q w14))
  (f3_1 x0 x1 x2 v8 v9 (.bool true) Q w11)

def f3 (x0 : Value) (x1 : Value) (x2 : Value) (Q : Value → World → Prop) (w : World) : Prop :=
  kcall Tryz.prog 11 #[] w fun v1 w2 =>
  kun .not (some .bool) v1 fun v3 =>
  kB v3 fun b69 => kIf b69
  (Q (.bool false) w2)
  (f3_0 x0 x1 x2 Q w2)

/-! pasodoble/pasodoblelaw09.StoreMoves -/
def f4_9 (x7 : Value) (x10 : Value) (x11 : Value) (x19 : Value) (Q : Value → World → Prop) (w : World) : Prop :=
  kldN 2 x11 w fun v99 =>
  kcall Tryz.prog 24 #[x7, v99, (.int .i64 99)] w fun v100 w101 =>
  kext v100 0 fun v102 =>
  kext v100 1 fun v103 =>
  knew #[(.int .i64 0), (.int .i64 0), (.int .i64 0), (.int .i64 0), (.int .i64 0), (.int .i64 0)] 49 w101 fun v104 w105 =>
  kst 6 v104 v102 w105 fun w106 =>
  kcall Tryz.prog 25 #[x19, x10] w106 fun v107 w108 =>
  kB v107 fun b109 => kIf b109
  (kld (.pointer (some ⟨1, 0, none⟩)) w108 fun v110 =>
  kcall Tryz.prog 20 #[v103, v110] w108 fun v111 w112 =>
  Q v111 w112)
  (Q (.bool false) w108)

def f4_8 (x7 : Value) (x10 : Value) (x11 : Value) (Q : Value → World → Prop) (w : World) : Prop :=
  kldN 2 x11 w fun v94 =>
  kcall Tryz.prog 21 #[x7, v94] w fun v95 w96 =>
  kext v95 0 fun v97 =>
  kext v95 1 fun v98 =>
  f4_9 x7 x10 x11 v97 Q w96

def f4_7 (x0 : Value) (x7 : Value) (x9 : Value) (x10 : Value) (x11 : Value) (x17 : Value) (Q : Value → World → Prop) (w : World) : Prop :=
  kldN 2 x11 w fun v81 =>
  kcall Tryz.prog 21 #[x7, v81] w fun v82 w83 =>
  kext v82 0 fun v84 =>
  kext v82 1 fun v85 =>
  kcall Tryz.prog 19 #[x0, x9] w83 fun v86 w87 =>
  kB v86 fun b114 => kIf b114
  (kldN 2 x11 w87 fun v88 =>
  kldN 6 x17 w87 fun v89 =>
  kcall Tryz.prog 18 #[x7, v88, v89] w87 fun v90 w91 =>
  keq Tryz.prog .neq 28 false true v90 .nilIface w91 fun v92 w93 =>
  kB v92 fun b113 => kIf b113
  (Q (.bool false) w93)
  (f4_8 x7 x10 x11 Q w93))
  (f4_9 x7 x10 x11 v84 Q w87)

def f4_6 (x0 : Value) (x7 : Value) (x9 : Value) (x10 : Value) (x11 : Value) (x17 : Value) (x107 : Value) (Q : Value → World → Prop) (w : World) : Prop :=
  kB x107 fun b115 => kIf b115
  (Q (.bool false) w)
  (f4_7 x0 x7 x9 x10 x11 x17 Q w)

def f4_5 (x0 : Value) (x7 : Value) (x9 : Value) (x10 : Value) (x11 : Value) (x13 : Value) (Q : Value → World → Prop) (w : World) : Prop :=
  kldN 2 x11 w fun v62 =>
  kcall Tryz.prog 24 #[x7, v62, x9] w fun v63 w64 =>
  kext v63 0 fun v65 =>
  kext v63 1 fun v66 =>
  knew #[(.int .i64 0), (.int .i64 0), (.int .i64 0), (.int .i64 0), (.int .i64 0), (.int .i64 0)] 49 w64 fun v67 w68 =>
  kst 6 v67 v65 w68 fun w69 =>
  keq Tryz.prog .neq 28 false true v66 .nilIface w69 fun v70 w71 =>
  kB v70 fun b72 => kIf (!b72)
  (kcall Tryz.prog 19 #[x0, x9] w71 fun v73 w74 =>
  kun .not (some .bool) v73 fun v75 =>
  kB v75 fun b76 => kIf b76
  (kldN 6 v67 w74 fun v77 =>
  kldN 6 x13 w74 fun v78 =>
  keq Tryz.prog .neq 49 false false v77 v78 w74 fun v79 w80 =>
  f4_6 x0 x7 x9 x10 x11 v67 v79 Q w80)
  (f4_6 x0 x7 x9 x10 x11 v67 (.bool false) Q w74))
  (f4_6 x0 x7 x9 x10 x11 v67 (.bool true) Q w71)

def f4_4 (x0 : Value) (x7 : Value) (x9 : Value) (x10 : Value) (x11 : Value) (x13 : Value) (Q : Value → World → Prop) (w : World) : Prop :=
  kldN 2 x11 w fun v50 =>
  kcall Tryz.prog 21 #[x7, v50] w fun v51 w52 =>
  kext v51 0 fun v53 =>
  kext v51 1 fun v54 =>
  klen v53 fun v55 =>
  kcall Tryz.prog 23 #[x0, x9] w52 fun v57 w58 =>
  kcall Tryz.prog 22 #[v57] w58 fun v59 w60 =>
  kint .i64 .neq v55 v59 fun v61 =>
  kB v61 fun b116 => kIf b116
  (Q (.bool false) w60)
  (f4_5 x0 x7 x9 x10 x11 x13 Q w60)

def f4_3 (x0 : Value) (x7 : Value) (x9 : Value) (x10 : Value) (x11 : Value) (x13 : Value) (x74 : Value) (Q : Value → World → Prop) (w : World) : Prop :=
  kB x74 fun b117 => kIf b117
  (Q (.bool false) w)
  (f4_4 x0 x7 x9 x10 x11 x13 Q w)

def f4_2 (x0 : Value) (x1 : Value) (x2 : Value) (x7 : Value) (Q : Value → World → Prop) (w : World) : Prop :=
  kint .u32 .and x0 (.int .u32 255) fun v15 =>
  kcnv .u64 x1 fun v16 =>
  kint .u64 .rem v16 (.int .u64 8) fun v17 =>
  kcnv .i64 v17 fun v18 =>
  kcall Tryz.prog 15 #[v15, (.int .i64 50)] w fun v19 w20 =>
  kcall Tryz.prog 14 #[x7, v19] w20 fun v21 w22 =>
  kext v21 0 fun v23 =>
  kext v21 1 fun v24 =>
  knew #[(.int .i64 0), (.int .i64 0)] 37 w22 fun v25 w26 =>
  kst 2 v25 v23 w26 fun w27 =>
  kbld [(.int .i64 0), (.int .i64 0), (.int .i64 0), (.int .i64 0)] [(0, 1, x2)] fun v28 =>
  kbld [(.int .i64 0), (.int .i64 0), (.int .i64 0), (.int .i64 0), (.int .i64 0), (.int .i64 0)] [(0, 1, v18), (1, 4, v28), (5, 1, (.int .i64 7))] fun v29 =>
  knew #[(.int .i64 0), (.int .i64 0), (.int .i64 0), (.int .i64 0), (.int .i64 0), (.int .i64 0)] 49 w27 fun v30 w31 =>
  kst 6 v30 v29 w31 fun w32 =>
  kldN 2 v25 w32 fun v33 =>
  kldN 6 v30 w32 fun v34 =>
  kcall Tryz.prog 18 #[x7, v33, v34] w32 fun v35 w36 =>
  kcall Tryz.prog 19 #[v15, v18] w36.drew fun v37 w38 =>
  kld (.pointer (some ⟨0, 0, none⟩)) w38 fun v39 =>
  kG (w38 = w38) <|
  kG (kld (.pointer (some ⟨0, 0, none⟩)) w36.drew fun v118 =>
  v118 = v39 ∧ w36.drew = w36.drew) <|
  kcall Tryz.prog 20 #[v35, v39] w38 fun v40 w41 =>
  kbool .neq v37 v40 fun v42 =>
  kB v42 fun b43 => kIf (!b43)
  (kcall Tryz.prog 19 #[v15, v18] w41 fun v44 w45 =>
  kun .not (some .bool) v44 fun v46 =>
  kB v46 fun b47 => kIf b47
  (keq Tryz.prog .neq 28 false true v35 .nilIface w45 fun v48 w49 =>
  kG (w49 = w45) <|
  f4_3 v15 x7 v18 v19 v25 v30 v48 Q w49)
  (f4_3 v15 x7 v18 v19 v25 v30 (.bool false) Q w45))
  (f4_3 v15 x7 v18 v19 v25 v30 (.bool true) Q w41)

def f4_1 (x0 : Value) (x1 : Value) (x2 : Value) (x7 : Value) (x35 : Value) (Q : Value → World → Prop) (w : World) : Prop :=
  kB x35 fun b119 => kIf b119
  (Q (.bool false) w)
  (f4_2 x0 x1 x2 x7 Q w)

def f4_0 (x0 : Value) (x1 : Value) (x2 : Value) (Q : Value → World → Prop) (w : World) : Prop :=
  kcall Tryz.prog 13 #[] w fun v4 w5 =>
  kcall Tryz.prog 12 #[v4, (.int .i64 3)] w5 fun v6 w7 =>
  kext v6 0 fun v8 =>
  kext v6 1 fun v9 =>
  keq Tryz.prog .eql 26 false true v8 (.pointer none) w7 fun v10 w11 =>
  kB v10 fun b12 => kIf (!b12)
  (keq Tryz.prog .neq 28 false true v9 .nilIface w11 fun v13 w14 =>
  f4_1 x0 x1 x2 v8 v13 Q w14)
  (f4_1 x0 x1 x2 v8 (.bool true) Q w11)

def f4 (x0 : Value) (x1 : Value) (x2 : Value) (Q : Value → World → Prop) (w : World) : Prop :=
  kcall Tryz.prog 11 #[] w fun v1 w2 =>
  kun .not (some .bool) v1 fun v3 =>
  kB v3 fun b120 => kIf b120
  (Q (.bool false) w2)
  (f4_0 x0 x1 x2 Q w2)

/-! pasodoble/pasodoblelaw09.StoreApart -/
def f6_6 (x0 : Value) (x1 : Value) (x2 : Value) (x7 : Value) (x9 : Value) (x10 : Value) (J8 : Value → Value → World → Prop) (Q : Value → World → Prop) (w : World) : Prop :=
  kint .i64 .add x10 (.int .i64 1) fun v50 =>
  J8 x9 v50 w

def f6_5 (x0 : Value) (x1 : Value) (x2 : Value) (x7 : Value) (x9 : Value) (x10 : Value) (x11 : Value) (J8 : Value → Value → World → Prop) (Q : Value → World → Prop) (w : World) : Prop :=
  kldN 2 x11 w fun v45 =>
  kbldS [(.int .i64 0), (.int .i64 0)] 1 [(0, 2, v45)] 37 w fun v46 w47 =>
  ksem Tryz.prog (Builtin.append_ #[42, 42] 0 #[x9, v46]) w47 fun v48 w49 =>
  f6_6 x0 x1 x2 x7 v48 x10 J8 Q w49

def f6_4 (x0 : Value) (x1 : Value) (x2 : Value) (x7 : Value) (x9 : Value) (x10 : Value) (J8 : Value → Value → World → Prop) (Q : Value → World → Prop) (w : World) : Prop :=
  kix (some (.slice 24)) (some 1) x0 x10 fun v30 =>
  kld v30 w fun v31 =>
  kint .u32 .and v31 (.int .u32 255) fun v32 =>
  kint .i64 .mul (.int .i64 100) x10 fun v33 =>
  kcall Tryz.prog 15 #[v32, v33] w fun v34 w35 =>
  kcall Tryz.prog 14 #[x7, v34] w35 fun v36 w37 =>
  kext v36 0 fun v38 =>
  kext v36 1 fun v39 =>
  knew #[(.int .i64 0), (.int .i64 0)] 37 w37 fun v40 w41 =>
  kst 2 v40 v38 w41 fun w42 =>
  keq Tryz.prog .neq 28 false true v39 .nilIface w42 fun v43 w44 =>
  kB v43 fun b51 => kIf b51
  (Q (.bool false) w44)
  (f6_5 x0 x1 x2 x7 x9 x10 v40 J8 Q w44)

def f6_11 (x0 : Value) (x2 : Value) (x7 : Value) (x9 : Value) (x13 : Value) (x14 : Value) (J16 : Value → World → Prop) (Q : Value → World → Prop) (w : World) : Prop :=
  kint .i64 .add x14 (.int .i64 1) fun v77 =>
  J16 v77 w

def f6_12 (x0 : Value) (x2 : Value) (x7 : Value) (x9 : Value) (x13 : Value) (x14 : Value) (x15 : Value) (x16 : Value) (J16 : Value → World → Prop) (Q : Value → World → Prop) (w : World) : Prop :=
  kfld 11 x15 fun v78 =>
  kld v78 w fun v79 =>
  kcnv .u64 v79 fun v80 =>
  kint .u64 .rem v80 (.int .u64 8) fun v81 =>
  kcnv .i64 v81 fun v82 =>
  kfld 13 x15 fun v83 =>
  kld v83 w fun v84 =>
  kbld [(.int .i64 0), (.int .i64 0), (.int .i64 0), (.int .i64 0)] [(0, 1, v84)] fun v85 =>
  kbld [(.int .i64 0), (.int .i64 0), (.int .i64 0), (.int .i64 0), (.int .i64 0), (.int .i64 0)] [(0, 1, v82), (1, 4, v85)] fun v86 =>
  knew #[(.int .i64 0), (.int .i64 0), (.int .i64 0), (.int .i64 0), (.int .i64 0), (.int .i64 0)] 49 w fun v87 w88 =>
  kst 6 v87 v86 w88 fun w89 =>
  kfld 0 x15 fun v90 =>
  kld v90 w89 fun v91 =>
  kint .i64 .eql v91 (.int .i64 2) fun v92 =>
  kB v92 fun b129 => kIf b129
  (kix (some (.slice 37)) (some 2) x9 x16 fun v93 =>
  kldN 2 v93 w89 fun v94 =>
  kcall Tryz.prog 27 #[x7, v94] w89 fun v95 w96 =>
  f6_11 x0 x2 x7 x9 x13 x14 J16 Q w96)
  (kint .i64 .eql v91 (.int .i64 3) fun v97 =>
  kB v97 fun b128 => kIf b128
  (kix (some (.slice 37)) (some 2) x9 x16 fun v98 =>
  kldN 2 v98 w89.drew fun v99 =>
  kG (w89.drew = w89.drew) <|
  kldN 6 v87 w89.drew fun v100 =>
  kG (w89.drew = w89.drew) <|
  kcall Tryz.prog 18 #[x7, v99, v100] w89.drew fun v101 w102 =>
  f6_11 x0 x2 x7 x9 x13 x14 J16 Q w102)
  (kint .i64 .eql v91 (.int .i64 4) fun v103 =>
  kB v103 fun b127 => kIf b127
  (kix (some (.slice 37)) (some 2) x9 x16 fun v104 =>
  kldN 2 v104 w89.drew fun v105 =>
  kG (w89.drew = w89.drew) <|
  kfld 0 v87 fun v106 =>
  kld v106 w89.drew fun v107 =>
  kG (w89.drew = w89.drew) <|
  kcall Tryz.prog 24 #[x7, v105, v107] w89.drew fun v108 w109 =>
  f6_11 x0 x2 x7 x9 x13 x14 J16 Q w109)
  (kint .i64 .eql v91 (.int .i64 5) fun v110 =>
  kB v110 fun b126 => kIf b126
  (kix (some (.slice 37)) (some 2) x9 x16 fun v111 =>
  kldN 2 v111 w89.drew fun v112 =>
  kG (w89.drew = w89.drew) <|
  kldN 6 v87 w89.drew fun v113 =>
  kG (w89.drew = w89.drew) <|
  kcall Tryz.prog 31 #[x7, v112, v113] w89.drew fun v114 w115 =>
  f6_11 x0 x2 x7 x9 x13 x14 J16 Q w115)
  (kint .i64 .eql v91 (.int .i64 6) fun v116 =>
  kB v116 fun b125 => kIf b125
  (kix (some (.slice 37)) (some 2) x9 x16 fun v117 =>
  kldN 2 v117 w89.drew fun v118 =>
  kG (w89.drew = w89.drew) <|
  kfld 0 v87 fun v119 =>
  kld v119 w89.drew fun v120 =>
  kG (w89.drew = w89.drew) <|
  kfld 13 x15 fun v121 =>
  kld v121 w89.drew fun v122 =>
  kG (w89.drew = w89.drew) <|
  kcall Tryz.prog 32 #[x7, v118, v120, (.int .i64 0), v122, x14] w89.drew fun v123 w124 =>
  f6_11 x0 x2 x7 x9 x13 x14 J16 Q w124)
  (f6_11 x0 x2 x7 x9 x13 x14 J16 Q w89)))))

def f6_10 (x0 : Value) (x2 : Value) (x7 : Value) (x9 : Value) (x13 : Value) (x14 : Value) (J16 : Value → World → Prop) (Q : Value → World → Prop) (w : World) : Prop :=
  kix (some (.slice 66)) (some 16) x2 x14 fun v63 =>
  kldN 16 v63 w fun v64 =>
  knew #[(.int .i64 0), (.int .i64 0), (.int .i64 0), (.int .i64 0), (.slice none 0 0), (.int .i64 0), (.int .i64 0), (.int .i64 0), (.int .i64 0), (.int .i64 0), (.int .i64 0), (.int .i64 0), (.int .i64 0), (.int .i64 0), (.int .u32 0), (.int .u32 0)] 66 w fun v65 w66 =>
  kst 16 v65 v64 w66 fun w67 =>
  kfld 1 v65 fun v68 =>
  kld v68 w67 fun v69 =>
  kcnv .u64 v69 fun v70 =>
  klen x9 fun v71 =>
  kcnv .u64 v71 fun v73 =>
  kint .u64 .rem v70 v73 fun v74 =>
  kcnv .i64 v74 fun v75 =>
  kint .i64 .eql v75 x13 fun v76 =>
  kB v76 fun b130 => kIf b130
  (f6_11 x0 x2 x7 x9 x13 x14 J16 Q w67)
  (f6_12 x0 x2 x7 x9 x13 x14 v65 v75 J16 Q w67)

def f6_13 (x0 : Value) (x7 : Value) (x9 : Value) (x13 : Value) (Q : Value → World → Prop) (w : World) : Prop :=
  kix (some (.slice 37)) (some 2) x9 x13 fun v131 =>
  kldN 2 v131 w fun v132 =>
  kcall Tryz.prog 21 #[x7, v132] w fun v133 w134 =>
  kext v133 0 fun v135 =>
  kext v133 1 fun v136 =>
  kix (some (.slice 37)) (some 2) x9 x13 fun v137 =>
  kldN 2 v137 w134 fun v138 =>
  kcall Tryz.prog 33 #[x7, v138] w134 fun v139 w140 =>
  kext v139 0 fun v141 =>
  kext v139 1 fun v142 =>
  keq Tryz.prog .eql 28 false true v136 .nilIface w140 fun v143 w144 =>
  kB v143 fun b145 => kIf b145
  (keq Tryz.prog .eql 28 false true v142 .nilIface w144 fun v146 w147 =>
  kB v146 fun b148 => kIf b148
  (kix (some (.slice 24)) (some 1) x0 x13 fun v149 =>
  kld v149 w147 fun v150 =>
  kint .u32 .and v150 (.int .u32 255) fun v151 =>
  kint .u32 .eql v141 v151 fun v152 =>
  kB v152 fun b153 => kIf b153
  (kix (some (.slice 24)) (some 1) x0 x13 fun v154 =>
  kld v154 w147 fun v155 =>
  kint .u32 .and v155 (.int .u32 255) fun v156 =>
  kint .i64 .mul (.int .i64 100) x13 fun v157 =>
  kcall Tryz.prog 15 #[v156, v157] w147 fun v158 w159 =>
  kcall Tryz.prog 25 #[v135, v158] w159 fun v160 w161 =>
  Q v160 w161)
  (Q (.bool false) w147))
  (Q (.bool false) w147))
  (Q (.bool false) w144)

def f6_9 (x0 : Value) (x2 : Value) (x7 : Value) (x9 : Value) (x13 : Value) (x14 : Value) (x87 : Value) (J16 : Value → World → Prop) (Q : Value → World → Prop) (w : World) : Prop :=
  kB x87 fun b162 => kIf b162
  (f6_10 x0 x2 x7 x9 x13 x14 J16 Q w)
  (f6_13 x0 x7 x9 x13 Q w)

def f6_8 (x14 : Value) (x0 : Value) (x2 : Value) (x7 : Value) (x9 : Value) (x13 : Value) (J16 : Value → World → Prop) (Q : Value → World → Prop) (w : World) : Prop :=
  klen x2 fun v58 =>
  kint .i64 .lss x14 v58 fun v60 =>
  kB v60 fun b61 => kIf b61
  (kint .i64 .lss x14 (.int .i64 150) fun v62 =>
  f6_9 x0 x2 x7 x9 x13 x14 v62 J16 Q w)
  (f6_9 x0 x2 x7 x9 x13 x14 (.bool false) J16 Q w)

def f6_7 (x0 : Value) (x1 : Value) (x2 : Value) (x7 : Value) (x9 : Value) (Q : Value → World → Prop) (w : World) : Prop :=
  kcnv .u64 x1 fun v52 =>
  klen x9 fun v53 =>
  kcnv .u64 v53 fun v55 =>
  kint .u64 .rem v52 v55 fun v56 =>
  kcnv .i64 v56 fun v57 =>
  kL fun (I : Value → World → Prop) (μ : Value → World → Nat) => I (.int .i64 0) w ∧ ∀ (x14 : Value) (w1 : World), I x14 w1 →
  f6_8 x14 x0 x2 x7 x9 v57 (fun y14 w2 => I y14 w2 ∧ μ y14 w2 < μ x14 w1) Q w1

def f6_3 (x9 : Value) (x10 : Value) (x0 : Value) (x1 : Value) (x2 : Value) (x7 : Value) (J8 : Value → Value → World → Prop) (Q : Value → World → Prop) (w : World) : Prop :=
  klen x0 fun v27 =>
  kint .i64 .lss x10 v27 fun v29 =>
  kB v29 fun b163 => kIf b163
  (f6_4 x0 x1 x2 x7 x9 x10 J8 Q w)
  (f6_7 x0 x1 x2 x7 x9 Q w)

def f6_2 (x0 : Value) (x1 : Value) (x2 : Value) (x7 : Value) (Q : Value → World → Prop) (w : World) : Prop :=
  kbldS [(.int .i64 0), (.int .i64 0)] 0 [] 37 w fun v25 w26 =>
  kL fun (I : Value → Value → World → Prop) (μ : Value → Value → World → Nat) => I v25 (.int .i64 0) w26 ∧ ∀ (x9 x10 : Value) (w1 : World), I x9 x10 w1 →
  f6_3 x9 x10 x0 x1 x2 x7 (fun y9 y10 w2 => I y9 y10 w2 ∧ μ y9 y10 w2 < μ x9 x10 w1) Q w1

def f6_1 (x0 : Value) (x1 : Value) (x2 : Value) (x7 : Value) (x8 : Value) (x44 : Value) (Q : Value → World → Prop) (w : World) : Prop :=
  kB x44 fun b164 => kIf b164
  (keq Tryz.prog .eql 28 false true x8 .nilIface w fun v23 w24 =>
  Q v23 w24)
  (f6_2 x0 x1 x2 x7 Q w)

def f6_0 (x0 : Value) (x1 : Value) (x2 : Value) (Q : Value → World → Prop) (w : World) : Prop :=
  kcall Tryz.prog 13 #[] w fun v4 w5 =>
  kcall Tryz.prog 12 #[v4, (.int .i64 64)] w5 fun v6 w7 =>
  kext v6 0 fun v8 =>
  kext v6 1 fun v9 =>
  keq Tryz.prog .eql 26 false true v8 (.pointer none) w7 fun v10 w11 =>
  kB v10 fun b12 => kIf (!b12)
  (keq Tryz.prog .neq 28 false true v9 .nilIface w11 fun v13 w14 =>
  kB v13 fun b15 => kIf (!b15)
  (klen x0 fun v16 =>
  kint .i64 .eql v16 (.int .i64 0) fun v18 =>
  kB v18 fun b19 => kIf (!b19)
  (klen x0 fun v20 =>
  kint .i64 .gtr v20 (.int .i64 60) fun v22 =>
  f6_1 x0 x1 x2 v8 v9 v22 Q w14)
  (f6_1 x0 x1 x2 v8 v9 (.bool true) Q w14))
  (f6_1 x0 x1 x2 v8 v9 (.bool true) Q w14))
  (f6_1 x0 x1 x2 v8 v9 (.bool true) Q w11)

def f6 (x0 : Value) (x1 : Value) (x2 : Value) (Q : Value → World → Prop) (w : World) : Prop :=
  kcall Tryz.prog 11 #[] w fun v1 w2 =>
  kun .not (some .bool) v1 fun v3 =>
  kB v3 fun b165 => kIf b165
  (Q (.bool false) w2)
  (f6_0 x0 x1 x2 Q w2)

theorem f6_eq (x0 : Value) (x1 : Value) (x2 : Value) (Q : Value → World → Prop) (w : World) : f6 x0 x1 x2 Q w = fnVC Tryz.prog Tryz.f6 [(8, [9, 10]), (16, [14])] (Tryz.f6.body.get rfl) [x0, x1, x2] w Q := by kernel_rfl
theorem f6_ok {x0 : Value} {x1 : Value} {x2 : Value} {Q : Value → World → Prop} {w : World} (h : f6 x0 x1 x2 Q w) : Meets Tryz.prog 6 #[x0, x1, x2] w Q :=
  sound (c := (Tryz.f6.body.get rfl)) [(8, [9, 10]), (16, [14])] Tryz.func6 rfl rfl (args := [x0, x1, x2]) rfl (Eq.mp (f6_eq x0 x1 x2 Q w) h)

/-! pasodoble/pasodoblelaw09.awake -/
def f11_1 (x1 : Value) (Q : Value → World → Prop) (w : World) : Prop :=
  kbld [(.int .i64 0), (.int .i64 0), (.int .i64 0), (.int .i64 0), (.int .i64 0), (.int .i64 0)] [(0, 1, (.int .i64 1))] fun v12 =>
  kbld [(.int .i64 0), (.int .i64 0), (.int .i64 0), (.int .i64 0)] [(0, 1, (.int .i64 5))] fun v13 =>
  kbld [(.int .i64 0), (.int .i64 0), (.int .i64 0), (.int .i64 0), (.int .i64 0), (.int .i64 0)] [(0, 1, (.int .i64 0)), (1, 4, v13)] fun v14 =>
  kbldS [(.int .i64 0), (.int .i64 0), (.int .i64 0), (.int .i64 0), (.int .i64 0), (.int .i64 0)] 2 [(0, 6, v12), (6, 6, v14)] 49 w fun v15 w16 =>
  kcall Tryz.prog 14 #[x1, v15] w16 fun v17 w18 =>
  kext v17 0 fun v19 =>
  kext v17 1 fun v20 =>
  knew #[(.int .i64 0), (.int .i64 0)] 37 w18 fun v21 w22 =>
  kst 2 v21 v19 w22 fun w23 =>
  kbld [(.int .i64 0), (.int .i64 0), (.int .i64 0), (.int .i64 0), (.int .i64 0), (.int .i64 0)] [(0, 1, (.int .i64 0))] fun v24 =>
  kbld [(.int .i64 0), (.int .i64 0), (.int .i64 0), (.int .i64 0), (.int .i64 0), (.int .i64 0)] [(0, 1, (.int .i64 1))] fun v25 =>
  kbldS [(.int .i64 0), (.int .i64 0), (.int .i64 0), (.int .i64 0), (.int .i64 0), (.int .i64 0)] 2 [(0, 6, v24), (6, 6, v25)] 49 w23 fun v26 w27 =>
  kcall Tryz.prog 14 #[x1, v26] w27 fun v28 w29 =>
  kext v28 0 fun v30 =>
  kext v28 1 fun v31 =>
  knew #[(.int .i64 0), (.int .i64 0)] 37 w29 fun v32 w33 =>
  kst 2 v32 v30 w33 fun w34 =>
  kldN 2 v21 w34 fun v35 =>
  kcall Tryz.prog 28 #[x1, v35, (.int .i64 0)] w34 fun v36 w37 =>
  kext v36 0 fun v38 =>
  kext v36 1 fun v39 =>
  knew #[(.int .i64 0), (.int .i64 0), (.int .i64 0), (.int .i64 0), (.int .i64 0), (.int .i64 0)] 49 w37 fun v40 w41 =>
  kst 6 v40 v38 w41 fun w42 =>
  kldN 2 v32 w42 fun v43 =>
  kcall Tryz.prog 24 #[x1, v43, (.int .i64 1)] w42 fun v44 w45 =>
  kext v44 0 fun v46 =>
  kext v44 1 fun v47 =>
  knew #[(.int .i64 0), (.int .i64 0), (.int .i64 0), (.int .i64 0), (.int .i64 0), (.int .i64 0)] 49 w45 fun v48 w49 =>
  kst 6 v48 v46 w49 fun w50 =>
  kldN 2 v32 w50 fun v51 =>
  kcall Tryz.prog 32 #[x1, v51, (.int .i64 1), (.int .i64 0), (.int .i64 0), (.int .i64 0)] w50 fun v52 w53 =>
  kext v52 0 fun v54 =>
  kext v52 1 fun v55 =>
  knew #[(.int .i64 0), (.int .i64 0), (.int .i64 0), (.int .i64 0), (.int .i64 0), (.int .i64 0)] 49 w53 fun v56 w57 =>
  kst 6 v56 v54 w57 fun w58 =>
  kldN 2 v21 w58 fun v59 =>
  kcall Tryz.prog 32 #[x1, v59, (.int .i64 0), (.int .i64 0), (.int .i64 9), (.int .i64 3)] w58 fun v60 w61 =>
  kext v60 0 fun v62 =>
  kext v60 1 fun v63 =>
  knew #[(.int .i64 0), (.int .i64 0), (.int .i64 0), (.int .i64 0), (.int .i64 0), (.int .i64 0)] 49 w61 fun v64 w65 =>
  kst 6 v64 v62 w65 fun w66 =>
  kfld 1 v40 fun v67 =>
  kix (some (.array 4 3)) (some 1) v67 (.int .i64 0) fun v68 =>
  kld v68 w66 fun v69 =>
  kint .i64 .eql v69 (.int .i64 5) fun v70 =>
  kB v70 fun b71 => kIf b71
  (keq Tryz.prog .eql 28 false true v39 .nilIface w66 fun v72 w73 =>
  kB v72 fun b74 => kIf b74
  (keq Tryz.prog .eql 28 false true v47 .nilIface w73 fun v75 w76 =>
  kB v75 fun b77 => kIf b77
  (kld (.pointer (some ⟨1, 0, none⟩)) w76 fun v78 =>
  kcall Tryz.prog 20 #[v55, v78] w76 fun v79 w80 =>
  kB v79 fun b81 => kIf b81
  (kldN 6 v64 w80 fun v82 =>
  kldN 6 v40 w80 fun v83 =>
  keq Tryz.prog .eql 49 false false v82 v83 w80 fun v84 w85 =>
  kB v84 fun b86 => kIf b86
  (keq Tryz.prog .eql 28 false true v63 .nilIface w85 fun v87 w88 =>
  kB v87 fun b89 => kIf b89
  (kcall Tryz.prog 17 #[x1] w88 fun v90 w91 =>
  kint .i64 .eql v90 (.int .i64 2) fun v92 =>
  kB v92 fun b93 => kIf b93
  (kcall Tryz.prog 26 #[x1] w91 fun v94 w95 =>
  kint .i64 .eql v94 (.int .i64 3) fun v96 =>
  kB v96 fun b97 => kIf b97
  (kcall Tryz.prog 16 #[x1, (.int .u32 1), (.int .u32 0)] w95 fun v98 w99 =>
  klen v98 fun v100 =>
  kint .i64 .eql v100 (.int .i64 2) fun v102 =>
  kB v102 fun b103 => kIf b103
  (kcall Tryz.prog 16 #[x1, (.int .u32 1), (.int .u32 2)] w99 fun v104 w105 =>
  klen v104 fun v106 =>
  kint .i64 .eql v106 (.int .i64 1) fun v108 =>
  kB v108 fun b109 => kIf b109
  (kcall Tryz.prog 30 #[x1, (.int .i64 0), (.int .i64 3)] w105 fun v110 w111 =>
  klen v110 fun v112 =>
  kint .i64 .eql v112 (.int .i64 1) fun v114 =>
  kB v114 fun b115 => kIf b115
  (kldN 2 v32 w111 fun v116 =>
  kcall Tryz.prog 29 #[x1, v116] w111 fun v117 w118 =>
  Q v117 w118)
  (Q (.bool false) w111))
  (Q (.bool false) w105))
  (Q (.bool false) w99))
  (Q (.bool false) w95))
  (Q (.bool false) w91))
  (Q (.bool false) w88))
  (Q (.bool false) w85))
  (Q (.bool false) w80))
  (Q (.bool false) w76))
  (Q (.bool false) w73))
  (Q (.bool false) w66)

def f11_0 (x1 : Value) (x25 : Value) (Q : Value → World → Prop) (w : World) : Prop :=
  kB x25 fun b119 => kIf b119
  (Q (.bool false) w)
  (f11_1 x1 Q w)

def f11 (Q : Value → World → Prop) (w : World) : Prop :=
  kcall Tryz.prog 66 #[] w fun v1 w2 =>
  kcall Tryz.prog 12 #[v1, (.int .i64 4)] w2 fun v3 w4 =>
  kext v3 0 fun v5 =>
  kext v3 1 fun v6 =>
  keq Tryz.prog .eql 26 false true v5 (.pointer none) w4 fun v7 w8 =>
  kB v7 fun b9 => kIf (!b9)
  (keq Tryz.prog .neq 28 false true v6 .nilIface w8 fun v10 w11 =>
  f11_0 v5 v10 Q w11)
  (f11_0 v5 (.bool true) Q w8)

theorem f11_eq (Q : Value → World → Prop) (w : World) : f11 Q w = fnVC Tryz.prog Tryz.f11 [] (Tryz.f11.body.get rfl) [] w Q := by kernel_rfl
theorem f11_ok {Q : Value → World → Prop} {w : World} (h : f11 Q w) : Meets Tryz.prog 11 #[] w Q :=
  sound (c := (Tryz.f11.body.get rfl)) [] Tryz.func11 rfl rfl (args := []) rfl (Eq.mp (f11_eq Q w) h)

/-! pasodoble/pasodoblelaw09.wide -/
def f13_2 (x0 : Value) (x1 : Value) (x2 : Value) (J3 : Value → World → Prop) (Q : Value → World → Prop) (w : World) : Prop :=
  kint .i64 .add x2 (.int .i64 1) fun v21 =>
  J3 v21 w

def f13_1 (x0 : Value) (x1 : Value) (x2 : Value) (J3 : Value → World → Prop) (Q : Value → World → Prop) (w : World) : Prop :=
  kfld 0 x1 fun v8 =>
  kld v8 w.drew fun v9 =>
  kG (w.drew = w.drew) <|
  kint .i64 .add x2 (.int .i64 1) fun v10 =>
  ksl (some .string) none (.string ⟨#[97, 98, 99, 100, 101, 102, 103, 104]⟩) (some x2) (some v10) fun v11 =>
  kint .i64 .rem x2 (.int .i64 2) fun v12 =>
  kint .i64 .eql v12 (.int .i64 0) fun v13 =>
  kbld [(.string ⟨#[]⟩), (.int .i64 0), (.bool false), (.int .i64 0), (.int .i64 0), (.int .i64 0), (.int .i64 0)] [(0, 1, v11), (1, 1, (.int .i64 1)), (2, 1, v13)] fun v14 =>
  kbldS [(.string ⟨#[]⟩), (.int .i64 0), (.bool false), (.int .i64 0), (.int .i64 0), (.int .i64 0), (.int .i64 0)] 1 [(0, 7, v14)] 132 w.drew fun v15 w16 =>
  kG (kld v8 w16 fun v22 =>
  v22 = v9 ∧ w16 = w16) <|
  ksem Tryz.prog (Builtin.append_ #[31, 31] 0 #[v9, v15]) w16 fun v17 w18 =>
  kfld 0 x1 fun v19 =>
  kst 1 v19 v17 w18 fun w20 =>
  f13_2 x0 x1 x2 J3 Q w20

def f13_3 (x0 : Value) (x1 : Value) (Q : Value → World → Prop) (w : World) : Prop :=
  kldN 2 x1 w fun v23 =>
  kst 2 x0 v23 w fun w24 =>
  kldN 2 x0 w24 fun v25 =>
  Q v25 w24

def f13_0 (x2 : Value) (x0 : Value) (x1 : Value) (J3 : Value → World → Prop) (Q : Value → World → Prop) (w : World) : Prop :=
  kint .i64 .lss x2 (.int .i64 8) fun v7 =>
  kB v7 fun b26 => kIf b26
  (f13_1 x0 x1 x2 J3 Q w)
  (f13_3 x0 x1 Q w)

def f13 (Q : Value → World → Prop) (w : World) : Prop :=
  knew #[(.slice none 0 0), (.slice none 0 0)] 34 w fun v1 w2 =>
  kbld [(.slice none 0 0), (.slice none 0 0)] [] fun v3 =>
  knew #[(.slice none 0 0), (.slice none 0 0)] 34 w2 fun v4 w5 =>
  kst 2 v4 v3 w5 fun w6 =>
  kL fun (I : Value → World → Prop) (μ : Value → World → Nat) => I (.int .i64 0) w6 ∧ ∀ (x2 : Value) (w1 : World), I x2 w1 →
  f13_0 x2 v1 v4 (fun y2 w2 => I y2 w2 ∧ μ y2 w2 < μ x2 w1) Q w1

theorem f13_eq (Q : Value → World → Prop) (w : World) : f13 Q w = fnVC Tryz.prog Tryz.f13 [(3, [2])] (Tryz.f13.body.get rfl) [] w Q := by kernel_rfl
theorem f13_ok {Q : Value → World → Prop} {w : World} (h : f13 Q w) : Meets Tryz.prog 13 #[] w Q :=
  sound (c := (Tryz.f13.body.get rfl)) [(3, [2])] Tryz.func13 rfl rfl (args := []) rfl (Eq.mp (f13_eq Q w) h)

/-! pasodoble/pasodoblelaw09.two -/
def f66 (Q : Value → World → Prop) (w : World) : Prop :=
  knew #[(.slice none 0 0), (.slice none 0 0)] 34 w fun v1 w2 =>
  kbld [(.string ⟨#[]⟩), (.int .i64 0), (.bool false), (.int .i64 0), (.int .i64 0), (.int .i64 0), (.int .i64 0)] [(0, 1, (.string ⟨#[97]⟩)), (1, 1, (.int .i64 1)), (2, 1, (.bool true))] fun v3 =>
  kbld [(.string ⟨#[]⟩), (.int .i64 0), (.bool false), (.int .i64 0), (.int .i64 0), (.int .i64 0), (.int .i64 0)] [(0, 1, (.string ⟨#[98]⟩)), (1, 1, (.int .i64 2))] fun v4 =>
  kbldS [(.string ⟨#[]⟩), (.int .i64 0), (.bool false), (.int .i64 0), (.int .i64 0), (.int .i64 0), (.int .i64 0)] 2 [(0, 7, v3), (7, 7, v4)] 132 w2 fun v5 w6 =>
  kbld [(.slice none 0 0), (.slice none 0 0)] [(0, 1, v5)] fun v7 =>
  kst 2 v1 v7 w6 fun w8 =>
  kldN 2 v1 w8 fun v9 =>
  Q v9 w8

theorem f66_eq (Q : Value → World → Prop) (w : World) : f66 Q w = fnVC Tryz.prog Tryz.f66 [] (Tryz.f66.body.get rfl) [] w Q := by kernel_rfl
theorem f66_ok {Q : Value → World → Prop} {w : World} (h : f66 Q w) : Meets Tryz.prog 66 #[] w Q :=
  sound (c := (Tryz.f66.body.get rfl)) [] Tryz.func66 rfl rfl (args := []) rfl (Eq.mp (f66_eq Q w) h)

/-! pasodoble/pasodoblelaw09.parts -/
def f15_2 (x0 : Value) (x1 : Value) (x5 : Value) (x6 : Value) (J3 : Value → Value → World → Prop) (Q : Value → World → Prop) (w : World) : Prop :=
  kint .i64 .add x6 (.int .i64 1) fun v14 =>
  J3 x5 v14 w

def f15_1 (x0 : Value) (x1 : Value) (x5 : Value) (x6 : Value) (J3 : Value → Value → World → Prop) (Q : Value → World → Prop) (w : World) : Prop :=
  kint .u32 .shr x0 x6 fun v4 =>
  kint .u32 .rem v4 (.int .u32 2) fun v5 =>
  kint .u32 .eql v5 (.int .u32 1) fun v6 =>
  kB v6 fun b15 => kIf b15
  (kint .i64 .add x1 x6 fun v7 =>
  kbld [(.int .i64 0), (.int .i64 0), (.int .i64 0), (.int .i64 0)] [(0, 1, v7)] fun v8 =>
  kbld [(.int .i64 0), (.int .i64 0), (.int .i64 0), (.int .i64 0), (.int .i64 0), (.int .i64 0)] [(0, 1, x6), (1, 4, v8), (5, 1, x6)] fun v9 =>
  kbldS [(.int .i64 0), (.int .i64 0), (.int .i64 0), (.int .i64 0), (.int .i64 0), (.int .i64 0)] 1 [(0, 6, v9)] 49 w fun v10 w11 =>
  ksem Tryz.prog (Builtin.append_ #[40, 40] 0 #[x5, v10]) w11 fun v12 w13 =>
  f15_2 x0 x1 v12 x6 J3 Q w13)
  (f15_2 x0 x1 x5 x6 J3 Q w)

def f15_3 (x5 : Value) (Q : Value → World → Prop) (w : World) : Prop :=
  Q x5 w

def f15_0 (x5 : Value) (x6 : Value) (x0 : Value) (x1 : Value) (J3 : Value → Value → World → Prop) (Q : Value → World → Prop) (w : World) : Prop :=
  kint .i64 .lss x6 (.int .i64 8) fun v3 =>
  kB v3 fun b16 => kIf b16
  (f15_1 x0 x1 x5 x6 J3 Q w)
  (f15_3 x5 Q w)

def f15 (x0 : Value) (x1 : Value) (Q : Value → World → Prop) (w : World) : Prop :=
  kbldS [(.int .i64 0), (.int .i64 0), (.int .i64 0), (.int .i64 0), (.int .i64 0), (.int .i64 0)] 0 [] 49 w fun v1 w2 =>
  kL fun (I : Value → Value → World → Prop) (μ : Value → Value → World → Nat) => I v1 (.int .i64 0) w2 ∧ ∀ (x5 x6 : Value) (w1 : World), I x5 x6 w1 →
  f15_0 x5 x6 x0 x1 (fun y5 y6 w2 => I y5 y6 w2 ∧ μ y5 y6 w2 < μ x5 x6 w1) Q w1

theorem f15_eq (x0 : Value) (x1 : Value) (Q : Value → World → Prop) (w : World) : f15 x0 x1 Q w = fnVC Tryz.prog Tryz.f15 [(3, [5, 6])] (Tryz.f15.body.get rfl) [x0, x1] w Q := by kernel_rfl
theorem f15_ok {x0 : Value} {x1 : Value} {Q : Value → World → Prop} {w : World} (h : f15 x0 x1 Q w) : Meets Tryz.prog 15 #[x0, x1] w Q :=
  sound (c := (Tryz.f15.body.get rfl)) [(3, [5, 6])] Tryz.func15 rfl rfl (args := [x0, x1]) rfl (Eq.mp (f15_eq x0 x1 Q w) h)

/-! pasodoble/pasodobleref09.Same -/
def f25_3 (x0 : Value) (x1 : Value) (x5 : Value) (J4 : Value → World → Prop) (Q : Value → World → Prop) (w : World) : Prop :=
  kint .i64 .add x5 (.int .i64 1) fun v15 =>
  J4 v15 w

def f25_2 (x0 : Value) (x1 : Value) (x5 : Value) (J4 : Value → World → Prop) (Q : Value → World → Prop) (w : World) : Prop :=
  kix (some (.slice 49)) (some 6) x0 x5 fun v9 =>
  kldN 6 v9 w.drew fun v10 =>
  kG (w.drew = w.drew) <|
  kix (some (.slice 49)) (some 6) x1 x5 fun v11 =>
  kldN 6 v11 w.drew fun v12 =>
  kG (w.drew = w.drew) <|
  keq Tryz.prog .neq 49 false false v10 v12 w.drew fun v13 w14 =>
  kG (w14 = w.drew) <|
  kB v13 fun b16 => kIf b16
  (Q (.bool false) w14)
  (f25_3 x0 x1 x5 J4 Q w14)

def f25_4 (Q : Value → World → Prop) (w : World) : Prop :=
  Q (.bool true) w

def f25_1 (x5 : Value) (x0 : Value) (x1 : Value) (J4 : Value → World → Prop) (Q : Value → World → Prop) (w : World) : Prop :=
  klen x0 fun v6 =>
  kint .i64 .lss x5 v6 fun v8 =>
  kB v8 fun b17 => kIf b17
  (f25_2 x0 x1 x5 J4 Q w)
  (f25_4 Q w)

def f25_0 (x0 : Value) (x1 : Value) (Q : Value → World → Prop) (w : World) : Prop :=
  kL fun (I : Value → World → Prop) (μ : Value → World → Nat) => I (.int .i64 0) w ∧ ∀ (x5 : Value) (w1 : World), I x5 w1 →
  f25_1 x5 x0 x1 (fun y5 w2 => I y5 w2 ∧ μ y5 w2 < μ x5 w1) Q w1

def f25 (x0 : Value) (x1 : Value) (Q : Value → World → Prop) (w : World) : Prop :=
  klen x0 fun v1 =>
  klen x1 fun v3 =>
  kint .i64 .neq v1 v3 fun v5 =>
  kB v5 fun b18 => kIf b18
  (Q (.bool false) w)
  (f25_0 x0 x1 Q w)

theorem f25_eq (x0 : Value) (x1 : Value) (Q : Value → World → Prop) (w : World) : f25 x0 x1 Q w = fnVC Tryz.prog Tryz.f25 [(4, [5])] (Tryz.f25.body.get rfl) [x0, x1] w Q := by kernel_rfl
theorem f25_ok {x0 : Value} {x1 : Value} {Q : Value → World → Prop} {w : World} (h : f25 x0 x1 Q w) : Meets Tryz.prog 25 #[x0, x1] w Q :=
  sound (c := (Tryz.f25.body.get rfl)) [(4, [5])] Tryz.func25 rfl rfl (args := [x0, x1]) rfl (Eq.mp (f25_eq x0 x1 Q w) h)

end Go.Proofs.YtlkpadfkmdgjcaaGreatDoor
end
section
set_option linter.unusedSimpArgs false
set_option linter.unusedVariables false
namespace Go.Proofs.YtlkpadfkmdgjcaaGreatDoor
open Go Go.Ev
set_option linter.unusedVariables false
set_option linter.unusedSimpArgs false
set_option maxRecDepth 100000
attribute [local irreducible] kO kB kStr kInt kN kG kIf kfld kld kldN kst knew kmap kbld kbldS kext kcnv klenStr klen kcap kprt kprtN kbool kint kstr keq kun ksl kix kiv kta kmk kmm ksem ksemU kextf kcallV kcallM kcall kL

deriving instance DecidableEq for Part
theorem wf_i64 {n : Int} (h : I64 n) : (Lit.int .i64 n).wf = true := by
  simp [Lit.wf, IntKind.min, IntKind.max, IntKind.signed, IntKind.bits]
  exact h
theorem cellsInt : Tryz.prog.cellsOf 3 = 1 := by kernel_rfl
theorem cellsArr : Tryz.prog.cellsOf 47 = 4 := by kernel_rfl
theorem cellsPart : Tryz.prog.cellsOf 49 = 6 := by kernel_rfl
theorem kl_int {n : Int} (h : I64 n) (d : Nat) : Tryz.prog.keyLits (d + 1) 3 [.int .i64 n] = some [.int .i64 n] := by
  unfold Program.keyLits
  simp only [Tryz.underlying3]
  rw [if_pos ⟨trivial, wf_i64 h⟩]
theorem kl_arr {a b c e : Int} (h1 : I64 a) (h2 : I64 b) (h3 : I64 c) (h4 : I64 e) (d : Nat) :
    Tryz.prog.keyLits (d + 2) 47 [.int .i64 a, .int .i64 b, .int .i64 c, .int .i64 e] = some [.int .i64 a, .int .i64 b, .int .i64 c, .int .i64 e] := by
  unfold Program.keyLits
  simp only [Tryz.underlying47, cellsInt, cellsArr]
  rw [if_pos (by rfl), show List.range 4 = [0, 1, 2, 3] from rfl]
  simp [kl_int h1, kl_int h2, kl_int h3, kl_int h4]
theorem kl_part {p : Part} (h : p.ok) (d : Nat) :
    Tryz.prog.keyLits (d + 3) 49 p.cells = some [.int .i64 p.comp, .int .i64 p.v0, .int .i64 p.v1, .int .i64 p.v2, .int .i64 p.v3, .int .i64 p.tick] := by
  obtain ⟨h1, h2, h3, h4, h5, h6⟩ := h
  unfold Program.keyLits
  simp only [Tryz.underlying49, cellsPart]
  rw [if_pos ⟨by rfl, by kernel_rfl⟩]
  simp [cellsInt, cellsArr, Part.cells, kl_int h1, kl_int h6, kl_arr h2 h3 h4 h5]
theorem keyPart : Tryz.prog.keyTypeAt 10 49 = true := by kernel_rfl
theorem guardPart : Tryz.prog.eqGuardType Tryz.prog.depth 49 = false := by kernel_rfl
theorem formPart (p : Part) : Value.formed Tryz.prog 49 (.agg p.cells.toArray) = true := by
  unfold Value.formed
  simp only [Tryz.underlying49, cellsPart]
  rfl
theorem keq_partE {p q : Part} (hp : p.ok) (hq : q.ok) {w : World} {K : Value → World → Prop} {cx cy : Bool} :
    keq Tryz.prog .eql 49 cx cy (.agg p.cells.toArray) (.agg q.cells.toArray) w K = K (.bool (decide (p = q))) w := by
  obtain ⟨r, hr, hiff⟩ := run_equalIn_deep (P := Tryz.prog) 9990 10 49 keyPart w 3 3 (.agg p.cells.toArray) (.agg q.cells.toArray) _ _ (formPart p) (formPart q) (kl_part hp 0) (kl_part hq 0)
  have hr2 : r = decide (p = q) := by
    rw [Bool.eq_iff_iff, hiff, decide_eq_true_eq]
    cases p; cases q
    simp
  rw [hr2] at hr
  simp only [keq, eqW, semV, Sem.run_bind, run_eqGuard_agg w .eql 49 _ _ p.cells.toArray q.cells.toArray guardPart, Result.andThen_ok, run_eql_struct]
  rw [show (10000 : Nat) = 9990 + 10 from rfl, hr]
  rfl

/-! ### The schema of two components -/
def twoC : List Comp := [⟨⟨#[97]⟩, 1, true, 0, 0, 0, 0⟩, ⟨⟨#[98]⟩, 2, false, 0, 0, 0, 0⟩]
theorem twoC_good : GoodSc twoC where
  len := by decide
  names q hq := by
    simp only [twoC, List.mem_cons, List.not_mem_nil, or_false] at hq
    rcases hq with rfl | rfl <;> exact ⟨by decide, by decide, by decide⟩
  apart i j hi hj e := by
    have hi : i < 2 := hi
    have hj : j < 2 := hj
    have : i = 0 ∨ i = 1 := by omega
    have : j = 0 ∨ j = 1 := by omega
    rcases ‹i = 0 ∨ i = 1› with rfl | rfl <;> rcases ‹j = 0 ∨ j = 1› with rfl | rfl
    · rfl
    · exact absurd (congrArg (fun b : ByteArray => b.data.toList) e) (by simp [twoC])
    · exact absurd (congrArg (fun b : ByteArray => b.data.toList) e) (by simp [twoC])
    · rfl
  wide q hq := by
    simp only [twoC, List.mem_cons, List.not_mem_nil, or_false] at hq
    rcases hq with rfl | rfl
    · exact ⟨1, rfl, by decide, by decide⟩
    · exact ⟨2, rfl, by decide, by decide⟩
  zero q hq := by
    simp only [twoC, List.mem_cons, List.not_mem_nil, or_false] at hq
    rcases hq with rfl | rfl <;> exact ⟨rfl, rfl, rfl, rfl⟩
theorem two_spec (w : World) : Meets Tryz.prog 66 #[] w fun v w' => ∃ a c, v = scV a twoC.length c (.slice none 0 0) ∧ SlIs w' a twoC.length 7 (twoC.flatMap Comp.cells) ∧ Same w w' := by
  refine f66_ok ?_
  unfold f66
  refine knew_of fun w2 h2 hs2 hb2 => ?_
  refine kbld_of (cs := [.string ⟨#[97]⟩, .int .i64 1, .bool true, .int .i64 0, .int .i64 0, .int .i64 0, .int .i64 0]) rfl ?_
  refine kbld_of (cs := [.string ⟨#[98]⟩, .int .i64 2, .bool false, .int .i64 0, .int .i64 0, .int .i64 0, .int .i64 0]) rfl ?_
  refine kbldS_of (cs := twoC.flatMap Comp.cells) rfl fun w6 h6 hs6 hb6 => ?_
  refine kbld_of (cs := [.slice (some ⟨w2.heap.size, 0, none⟩) 2 2, .slice none 0 0]) rfl ?_
  refine kst_of (vs := [.slice (some ⟨w2.heap.size, 0, none⟩) 2 2, .slice none 0 0]) (h6.get hb2 (fun h => h)) rfl rfl rfl (by simp) (by simp) fun w8 h8 hs8 hb8 => ?_
  have hb8 : blk w8 w.heap.size = some (.cells #[.slice (some ⟨w2.heap.size, 0, none⟩) 2 2, .slice none 0 0] 34) := hb8
  have hb68 := h8.get hb6 (by omega)
  repeat (first | refine kN_at ?_ | refine kB_at ?_ | refine kfld_of ?_ | refine kext_at rfl ?_ | refine kld_at hb8 rfl ?_ | refine kldN_at hb8 rfl (by omega) ?_ | refine kG_of (by first | exact rfl | omega) ?_ | refine klen_at ?_ | refine eql_at ?_ | refine neq_at ?_ | refine lss_at ?_ | refine leq_at ?_ | refine gtr_at ?_ | refine geq_at ?_ | refine add_at (by omega) (by omega) ?_ | refine sub_at (by omega) (by omega) ?_ | refine not_at ?_ | refine kO_at ?_ | refine kprt_at rfl ?_ | refine kprtN_at rfl ?_ | refine kcap_at ?_ | refine klenStr_at ?_ | refine kN_iat ?_ | refine kN_fat ?_ | refine kIf_T (by first | exact rfl | exact decT (by omega) | exact notT (decF (by omega))) ?_ | refine kIf_F (by first | exact rfl | exact decF (by omega) | exact notF (decT (by omega))) ?_)
  exact ⟨_, _, rfl, SlIs.blk hb68 rfl, (h2.trans h6).trans' (h8.mono fun k _ e => .inr (by omega))⟩
end Go.Proofs.YtlkpadfkmdgjcaaGreatDoor
end
section
set_option linter.unusedSimpArgs false
set_option linter.unusedVariables false
namespace Go.Proofs.YtlkpadfkmdgjcaaGreatDoor
open Go Go.Ev
set_option linter.unusedVariables false
set_option linter.unusedSimpArgs false
set_option maxRecDepth 100000
attribute [local irreducible] kO kB kStr kInt kN kG kIf kfld kld kldN kst knew kmap kbld kbldS kext kcnv klenStr klen kcap kprt kprtN kbool kint kstr keq kun ksl kix kiv kta kmk kmm ksem ksemU kextf kcallV kcallM kcall kL

def pa (c v : Int) : Part := ⟨c, v, 0, 0, 0, 0⟩
theorem fits_two {c : Nat} (hc : c < 2) (v : Int) : FitsP twoC (pa c v) := by
  refine ⟨c, rfl, hc, ?_⟩
  have : c = 0 ∨ c = 1 := by omega
  rcases this with rfl | rfl
  · intro x hx
    have : x ∈ [(0 : Int), 0, 0] := hx
    simpa using this
  · intro x hx
    have : x ∈ [(0 : Int), 0] := hx
    simpa using this
def l1 : List Part := [pa 1 0, pa 0 5]
def l2 : List Part := [pa 0 0, pa 1 0]
theorem l1_fits : ∀ q ∈ l1, FitsP twoC q := by
  intro q hq
  simp only [l1, List.mem_cons, List.not_mem_nil, or_false] at hq
  rcases hq with rfl | rfl
  · exact fits_two (c := 1) (by omega) 0
  · exact fits_two (c := 0) (by omega) 5
theorem l2_fits : ∀ q ∈ l2, FitsP twoC q := by
  intro q hq
  simp only [l2, List.mem_cons, List.not_mem_nil, or_false] at hq
  rcases hq with rfl | rfl
  · exact fits_two (c := 0) (by omega) 0
  · exact fits_two (c := 1) (by omega) 0
theorem mask_l1 : maskP l1 = 3 := by decide
theorem mask_l2 : maskP l2 = 3 := by decide
theorem nt_l1 : NoTwice l1 := by unfold NoTwice; decide
theorem nt_l2 : NoTwice l2 := by unfold NoTwice; decide
theorem awake_spec {pr : Nat → Prop} {Sa : Nat → Addr} {w : World} (hD : DeAt w) (hL : LaidP pr Sa w) (h7 : pr 7) : Meets Tryz.prog 11 #[] w fun v w' => v = .bool true ∧ Same w w' := by
  have hDlt := hD.lt
  refine f11_ok ?_
  unfold f11
  refine kcall_of (two_spec w) ?_
  rintro v w2 ⟨a, c, rfl, hs2, h2⟩
  refine kcall_of (sNew_spec (hD.same h2) hs2 twoC_good (most := 4) (by omega)) ?_
  rintro v w4 ⟨b, rfl, o, p, hP4, hlo4, hhi4, h4⟩
  have hsz2 := h2.size
  have C4 : Cur w o w4 b p (newS twoC 4) 0 := ⟨hP4, newS_gs (by omega), fun k hk => hlo4 k (by omega), hhi4, h2.trans h4⟩
  rw [ptrV]
  repeat (first | refine kN_at ?_ | refine kB_at ?_ | refine kfld_of ?_ | refine kext_at rfl ?_ | refine kG_of (by first | exact rfl | omega) ?_ | refine klen_at ?_ | refine eql_at ?_ | refine neq_at ?_ | refine lss_at ?_ | refine leq_at ?_ | refine gtr_at ?_ | refine geq_at ?_ | refine add_at (by omega) (by omega) ?_ | refine sub_at (by omega) (by omega) ?_ | refine not_at ?_ | refine kO_at ?_ | refine kprt_at rfl ?_ | refine kprtN_at rfl ?_ | refine kcap_at ?_ | refine klenStr_at ?_ | refine kN_iat ?_ | refine kN_fat ?_ | refine kIf_T (by first | exact rfl | exact decT (by omega) | exact notT (decF (by omega))) ?_ | refine kIf_F (by first | exact rfl | exact decF (by omega) | exact notF (decT (by omega))) ?_)
  rw [keq_ptr_nil ptSto]
  repeat (first | refine kN_at ?_ | refine kB_at ?_ | refine kfld_of ?_ | refine kext_at rfl ?_ | refine kG_of (by first | exact rfl | omega) ?_ | refine klen_at ?_ | refine eql_at ?_ | refine neq_at ?_ | refine lss_at ?_ | refine leq_at ?_ | refine gtr_at ?_ | refine geq_at ?_ | refine add_at (by omega) (by omega) ?_ | refine sub_at (by omega) (by omega) ?_ | refine not_at ?_ | refine kO_at ?_ | refine kprt_at rfl ?_ | refine kprtN_at rfl ?_ | refine kcap_at ?_ | refine klenStr_at ?_ | refine kN_iat ?_ | refine kN_fat ?_ | refine kIf_T (by first | exact rfl | exact decT (by omega) | exact notT (decF (by omega))) ?_ | refine kIf_F (by first | exact rfl | exact decF (by omega) | exact notF (decT (by omega))) ?_)
  rw [keq_nil_nil' ifErr]
  repeat (first | refine kN_at ?_ | refine kB_at ?_ | refine kfld_of ?_ | refine kext_at rfl ?_ | refine kG_of (by first | exact rfl | omega) ?_ | refine klen_at ?_ | refine eql_at ?_ | refine neq_at ?_ | refine lss_at ?_ | refine leq_at ?_ | refine gtr_at ?_ | refine geq_at ?_ | refine add_at (by omega) (by omega) ?_ | refine sub_at (by omega) (by omega) ?_ | refine not_at ?_ | refine kO_at ?_ | refine kprt_at rfl ?_ | refine kprtN_at rfl ?_ | refine kcap_at ?_ | refine klenStr_at ?_ | refine kN_iat ?_ | refine kN_fat ?_ | refine kIf_T (by first | exact rfl | exact decT (by omega) | exact notT (decF (by omega))) ?_ | refine kIf_F (by first | exact rfl | exact decF (by omega) | exact notF (decT (by omega))) ?_)
  refine kbld_of (cs := [.int .i64 1, .int .i64 0, .int .i64 0, .int .i64 0, .int .i64 0, .int .i64 0]) rfl ?_
  refine kbld_of (cs := [.int .i64 5, .int .i64 0, .int .i64 0, .int .i64 0]) rfl ?_
  refine kbld_of (cs := [.int .i64 0, .int .i64 5, .int .i64 0, .int .i64 0, .int .i64 0, .int .i64 0]) rfl ?_
  refine kbldS_of (cs := l1.flatMap Part.cells) rfl fun w16 h16 hs16 hb16 => ?_
  have C16 := C4.loc h16
  refine kcall_of (spawn_at (L := l1) (hD.same C16.same) C16.sp (C16.lo _ hDlt) C16.gs (by omega) (by intro e; exact absurd e (by decide)) (SlIs.blk hb16 rfl) (fun k f e => by cases e; exact C4.hi _ (Nat.le_refl _)) (by decide) l1_fits nt_l1) ?_
  rintro v w18 ⟨i, g0, L1, S1, hi1, hg1, rfl, hp1, hs1, hG1, B1, T1⟩
  have ei : i = 0 := by
    have : (newS twoC 4).free.getLast? = some 0 := rfl
    rw [this] at hi1; exact (Option.some.inj hi1).symm
  subst ei
  have eg : g0 = 0 := by
    have : (newS twoC 4).gens[0]? = some (0, false) := rfl
    rw [this] at hg1; cases hg1; rfl
  subst eg
  obtain ⟨o18, p18, C18, hl18, hm18⟩ := C16.turn T1 hG1
  repeat (first | refine kN_at ?_ | refine kB_at ?_ | refine kfld_of ?_ | refine kext_at rfl ?_ | refine kG_of (by first | exact rfl | omega) ?_ | refine klen_at ?_ | refine eql_at ?_ | refine neq_at ?_ | refine lss_at ?_ | refine leq_at ?_ | refine gtr_at ?_ | refine geq_at ?_ | refine add_at (by omega) (by omega) ?_ | refine sub_at (by omega) (by omega) ?_ | refine not_at ?_ | refine kO_at ?_ | refine kprt_at rfl ?_ | refine kprtN_at rfl ?_ | refine kcap_at ?_ | refine klenStr_at ?_ | refine kN_iat ?_ | refine kN_fat ?_ | refine kIf_T (by first | exact rfl | exact decT (by omega) | exact notT (decF (by omega))) ?_ | refine kIf_F (by first | exact rfl | exact decF (by omega) | exact notF (decT (by omega))) ?_)
  refine knew_of fun w22 h22 hs22 hb22 => ?_
  refine kst_of (vs := [.int .i64 0, .int .i64 1]) hb22 rfl rfl rfl (by simp) (by simp) fun w23 h23 hs23 hb23 => ?_
  have hx23 : blk w23 w18.heap.size = some (.cells #[.int .i64 0, .int .i64 1] 37) := hb23
  have m23 : Same w18 w23 := h22.trans' (h23.mono fun k _ e => .inr (by omega))
  have C23 := C18.loc m23
  have hox : o18 w18.heap.size = none := C18.hi _ (Nat.le_refl _)
  refine kbld_of (cs := [.int .i64 0, .int .i64 0, .int .i64 0, .int .i64 0, .int .i64 0, .int .i64 0]) rfl ?_
  refine kbld_of (cs := [.int .i64 1, .int .i64 0, .int .i64 0, .int .i64 0, .int .i64 0, .int .i64 0]) rfl ?_
  refine kbldS_of (cs := l2.flatMap Part.cells) rfl fun w27 h27 hs27 hb27 => ?_
  have C27 := C23.loc h27
  have hx27 := h27.get hx23 (fun h => h)
  have hcs1 : S1.cs = twoC := B1.cs
  have hfr1 : S1.free = [3, 2, 1] := B1.free
  have hgn1 : S1.gens = [(1, true), (0, false), (0, false), (0, false)] := B1.gens
  refine kcall_of (spawn_at (L := l2) (hD.same C27.same) C27.sp (C27.lo _ hDlt) C27.gs (by omega) (by rw [hfr1]; intro e; cases e) (SlIs.blk hb27 rfl) (fun k f e => by cases e; exact C23.hi _ (Nat.le_refl _)) (by decide) (by rw [hcs1]; exact l2_fits) nt_l2) ?_
  rintro v w29 ⟨i, g0, L2, S2, hi2, hg2, rfl, hp2, hs2', hG2, B2, T2⟩
  have ei : i = 1 := by
    rw [hfr1] at hi2; exact (Option.some.inj hi2).symm
  subst ei
  have eg : g0 = 0 := by
    rw [hgn1] at hg2; cases hg2; rfl
  subst eg
  obtain ⟨o29, p29, C29, hl29, hm29⟩ := C27.turn T2 hG2
  have hx29 := hm29.get hx27 (fun e => e hox)
  have hox29 : o29 w18.heap.size = none := by rw [hl29 _ (lt_of_blk hx27)]; exact hox
  repeat (first | refine kN_at ?_ | refine kB_at ?_ | refine kfld_of ?_ | refine kext_at rfl ?_ | refine kG_of (by first | exact rfl | omega) ?_ | refine klen_at ?_ | refine eql_at ?_ | refine neq_at ?_ | refine lss_at ?_ | refine leq_at ?_ | refine gtr_at ?_ | refine geq_at ?_ | refine add_at (by omega) (by omega) ?_ | refine sub_at (by omega) (by omega) ?_ | refine not_at ?_ | refine kO_at ?_ | refine kprt_at rfl ?_ | refine kprtN_at rfl ?_ | refine kcap_at ?_ | refine klenStr_at ?_ | refine kN_iat ?_ | refine kN_fat ?_ | refine kIf_T (by first | exact rfl | exact decT (by omega) | exact notT (decF (by omega))) ?_ | refine kIf_F (by first | exact rfl | exact decF (by omega) | exact notF (decT (by omega))) ?_)
  refine knew_of fun w33 h33 hs33 hb33 => ?_
  refine kst_of (vs := [.int .i64 1, .int .i64 1]) hb33 rfl rfl rfl (by simp) (by simp) fun w34 h34 hs34 hb34 => ?_
  have hy34 : blk w34 w29.heap.size = some (.cells #[.int .i64 1, .int .i64 1] 37) := hb34
  have m34 : Same w29 w34 := h33.trans' (h34.mono fun k _ e => .inr (by omega))
  have C34 := C29.loc m34
  have hoy : o29 w29.heap.size = none := C29.hi _ (Nat.le_refl _)
  have hx34 := m34.get hx29 (fun h => h)
  have hcs2 : S2.cs = twoC := B2.cs.trans hcs1
  have hgn2 : S2.gens = [(1, true), (1, true), (0, false), (0, false)] := by rw [B2.gens, hgn1]; rfl
  have hP0 : partsOf S2 0 = L1 := (B2.others 0 1 (by omega) (by rw [hgn1]; rfl)).trans B1.parts
  have hP1 : partsOf S2 1 = L2 := B2.parts
  have hq0 : pa 0 5 ∈ partsOf S2 0 := by rw [hP0]; exact hp1.mem_iff.2 (by simp [l1])
  repeat (first | refine kN_at ?_ | refine kB_at ?_ | refine kfld_of ?_ | refine kext_at rfl ?_ | refine kld_at hx34 rfl ?_ | refine kldN_at hx34 rfl (by omega) ?_ | refine kG_of (by first | exact rfl | omega) ?_ | refine klen_at ?_ | refine eql_at ?_ | refine neq_at ?_ | refine lss_at ?_ | refine leq_at ?_ | refine gtr_at ?_ | refine geq_at ?_ | refine add_at (by omega) (by omega) ?_ | refine sub_at (by omega) (by omega) ?_ | refine not_at ?_ | refine kO_at ?_ | refine kprt_at rfl ?_ | refine kprtN_at rfl ?_ | refine kcap_at ?_ | refine klenStr_at ?_ | refine kN_iat ?_ | refine kN_fat ?_ | refine kIf_T (by first | exact rfl | exact decT (by omega) | exact notT (decF (by omega))) ?_ | refine kIf_F (by first | exact rfl | exact decF (by omega) | exact notF (decT (by omega))) ?_)
  refine kcall_of (get_at C34.sp C34.gs (i := 0) (g := 1) (by rw [hgn2]; rfl) (c := 0) hq0 rfl) ?_
  rintro v w37 ⟨rfl, h37⟩
  repeat (first | refine kN_at ?_ | refine kB_at ?_ | refine kfld_of ?_ | refine kext_at rfl ?_ | refine kG_of (by first | exact rfl | omega) ?_ | refine klen_at ?_ | refine eql_at ?_ | refine neq_at ?_ | refine lss_at ?_ | refine leq_at ?_ | refine gtr_at ?_ | refine geq_at ?_ | refine add_at (by omega) (by omega) ?_ | refine sub_at (by omega) (by omega) ?_ | refine not_at ?_ | refine kO_at ?_ | refine kprt_at rfl ?_ | refine kprtN_at rfl ?_ | refine kcap_at ?_ | refine klenStr_at ?_ | refine kN_iat ?_ | refine kN_fat ?_ | refine kIf_T (by first | exact rfl | exact decT (by omega) | exact notT (decF (by omega))) ?_ | refine kIf_F (by first | exact rfl | exact decF (by omega) | exact notF (decT (by omega))) ?_)
  refine knew_of fun w41 h41 hs41 hb41 => ?_
  refine kst_of (vs := (pa 0 5).cells) hb41 rfl rfl rfl (by simp) (by simp [Part.cells]) fun w42 h42 hs42 hb42 => ?_
  have hp42 : blk w42 w37.heap.size = some (.cells (pa 0 5).cells.toArray 49) := hb42
  have m42 : Same w34 w42 := (h37.trans h41).trans' (h42.mono fun k _ e => .inr (by have := h37.size; omega))
  have C42 := C34.loc m42
  have hx42 := m42.get hx34 (fun h => h)
  have hy42 := m42.get hy34 (fun h => h)
  have hop : o29 w37.heap.size = none := C29.hi _ (by have := m34.size; have := h37.size; omega)
  have hq1 : pa 1 0 ∈ partsOf S2 1 := by rw [hP1]; exact hp2.mem_iff.2 (by simp [l2])
  repeat (first | refine kN_at ?_ | refine kB_at ?_ | refine kfld_of ?_ | refine kext_at rfl ?_ | refine kld_at hy42 rfl ?_ | refine kldN_at hy42 rfl (by omega) ?_ | refine kG_of (by first | exact rfl | omega) ?_ | refine klen_at ?_ | refine eql_at ?_ | refine neq_at ?_ | refine lss_at ?_ | refine leq_at ?_ | refine gtr_at ?_ | refine geq_at ?_ | refine add_at (by omega) (by omega) ?_ | refine sub_at (by omega) (by omega) ?_ | refine not_at ?_ | refine kO_at ?_ | refine kprt_at rfl ?_ | refine kprtN_at rfl ?_ | refine kcap_at ?_ | refine klenStr_at ?_ | refine kN_iat ?_ | refine kN_fat ?_ | refine kIf_T (by first | exact rfl | exact decT (by omega) | exact notT (decF (by omega))) ?_ | refine kIf_F (by first | exact rfl | exact decF (by omega) | exact notF (decT (by omega))) ?_)
  refine kcall_of (remove_at (hD.same C42.same) C42.sp (C42.lo _ hDlt) C42.gs (by omega) (i := 1) (g := 1) (by rw [hgn2]; rfl) (c := 1) hq1 rfl) ?_
  rintro v w45 ⟨rfl, S3, hG3, W3, T3⟩
  obtain ⟨o45, p45, C45, hl45, hm45⟩ := C42.turn T3 hG3
  have hx45 := hm45.get hx42 (fun e => e hox29)
  have hy45 := hm45.get hy42 (fun e => e hoy)
  have hp45 := hm45.get hp42 (fun e => e hop)
  have hox45 : o45 w18.heap.size = none := by rw [hl45 _ (lt_of_blk hx42)]; exact hox29
  have hoy45 : o45 w29.heap.size = none := by rw [hl45 _ (lt_of_blk hy42)]; exact hoy
  have hop45 : o45 w37.heap.size = none := by rw [hl45 _ (lt_of_blk hp42)]; exact hop
  repeat (first | refine kN_at ?_ | refine kB_at ?_ | refine kfld_of ?_ | refine kext_at rfl ?_ | refine kG_of (by first | exact rfl | omega) ?_ | refine klen_at ?_ | refine eql_at ?_ | refine neq_at ?_ | refine lss_at ?_ | refine leq_at ?_ | refine gtr_at ?_ | refine geq_at ?_ | refine add_at (by omega) (by omega) ?_ | refine sub_at (by omega) (by omega) ?_ | refine not_at ?_ | refine kO_at ?_ | refine kprt_at rfl ?_ | refine kprtN_at rfl ?_ | refine kcap_at ?_ | refine klenStr_at ?_ | refine kN_iat ?_ | refine kN_fat ?_ | refine kIf_T (by first | exact rfl | exact decT (by omega) | exact notT (decF (by omega))) ?_ | refine kIf_F (by first | exact rfl | exact decF (by omega) | exact notF (decT (by omega))) ?_)
  refine knew_of fun w49 h49 hs49 hb49 => ?_
  refine kst_of (vs := (pa 1 0).cells) hb49 rfl rfl rfl (by simp) (by simp [Part.cells]) fun w50 h50 hs50 hb50 => ?_
  have m50 : Same w45 w50 := h49.trans' (h50.mono fun k _ e => .inr (by omega))
  have C50 := C45.loc m50
  have hx50 := m50.get hx45 (fun h => h)
  have hy50 := m50.get hy45 (fun h => h)
  have hp50 := m50.get hp45 (fun h => h)
  have hgn3 : S3.gens = [(1, true), (1, true), (0, false), (0, false)] := W3.gens.trans hgn2
  repeat (first | refine kN_at ?_ | refine kB_at ?_ | refine kfld_of ?_ | refine kext_at rfl ?_ | refine kld_at hy50 rfl ?_ | refine kldN_at hy50 rfl (by omega) ?_ | refine kG_of (by first | exact rfl | omega) ?_ | refine klen_at ?_ | refine eql_at ?_ | refine neq_at ?_ | refine lss_at ?_ | refine leq_at ?_ | refine gtr_at ?_ | refine geq_at ?_ | refine add_at (by omega) (by omega) ?_ | refine sub_at (by omega) (by omega) ?_ | refine not_at ?_ | refine kO_at ?_ | refine kprt_at rfl ?_ | refine kprtN_at rfl ?_ | refine kcap_at ?_ | refine klenStr_at ?_ | refine kN_iat ?_ | refine kN_fat ?_ | refine kIf_T (by first | exact rfl | exact decT (by omega) | exact notT (decF (by omega))) ?_ | refine kIf_F (by first | exact rfl | exact decF (by omega) | exact notF (decT (by omega))) ?_)
  have hP3 : partsOf S3 1 = L2.filter fun x => decide (x.comp ≠ (1 : Int)) := by
    have := W3.parts
    rw [hP1] at this
    exact this
  obtain ⟨n3, r3, hsp3, hn3, hnm3, _, _, hce3, hmap3, _, _, _, _⟩ := parts_ok C50.sp C50.gs (i := 1) (g := 1) (by rw [hgn3]; rfl)
  have hno : ∀ x ∈ compsM S3.masks n3, (x : Int) ≠ 1 := fun x hx e => by
    rw [hce3] at hx
    have h1 : (x : Int) ∈ (listF S3.masks[n3]).map (fun c : Nat => (c : Int)) := List.mem_map.2 ⟨x, hx, rfl⟩
    rw [← hmap3, hP3] at h1
    obtain ⟨q, hq, e2⟩ := List.mem_map.1 h1
    have := (List.mem_filter.1 hq).2
    simp at this
    omega
  refine kcall_of (sSet_err (Sa := Sa) (k := 7) fun w2' m2' => sColumn_none (hL.same (C50.same.trans m2')) h7 (C50.sp.same m2') (i := 1) (g := 1) (by rw [hgn3]; rfl) hsp3 hn3 hno) ?_
  rintro v w53 ⟨xe, rfl, hxe, h53⟩
  repeat (first | refine kN_at ?_ | refine kB_at ?_ | refine kfld_of ?_ | refine kext_at rfl ?_ | refine kG_of (by first | exact rfl | omega) ?_ | refine klen_at ?_ | refine eql_at ?_ | refine neq_at ?_ | refine lss_at ?_ | refine leq_at ?_ | refine gtr_at ?_ | refine geq_at ?_ | refine add_at (by omega) (by omega) ?_ | refine sub_at (by omega) (by omega) ?_ | refine not_at ?_ | refine kO_at ?_ | refine kprt_at rfl ?_ | refine kprtN_at rfl ?_ | refine kcap_at ?_ | refine klenStr_at ?_ | refine kN_iat ?_ | refine kN_fat ?_ | refine kIf_T (by first | exact rfl | exact decT (by omega) | exact notT (decF (by omega))) ?_ | refine kIf_F (by first | exact rfl | exact decF (by omega) | exact notF (decT (by omega))) ?_)
  rw [zPartV]
  refine knew_of fun w57 h57 hs57 hb57 => ?_
  refine kst_of (vs := [.int .i64 0, .int .i64 0, .int .i64 0, .int .i64 0, .int .i64 0, .int .i64 0]) hb57 rfl rfl rfl (by simp) (by simp) fun w58 h58 hs58 hb58 => ?_
  have m58a : Same w53 w58 := h57.trans' (h58.mono fun k _ e => .inr (by omega))
  have m58 : Same w50 w58 := h53.trans m58a
  have C58 := C50.loc m58
  have hx58 := m58.get hx50 (fun h => h)
  have hy58 := m58.get hy50 (fun h => h)
  have hp58 := m58.get hp50 (fun h => h)
  have hxe58 := hxe.same m58a
  have hq03 : pa 0 5 ∈ partsOf S3 0 := by
    rw [W3.others 0 1 (by omega) (by rw [hgn2]; rfl)]; exact hq0
  have hcs3 : S3.cs = twoC := W3.cs.trans hcs2
  repeat (first | refine kN_at ?_ | refine kB_at ?_ | refine kfld_of ?_ | refine kext_at rfl ?_ | refine kld_at hx58 rfl ?_ | refine kldN_at hx58 rfl (by omega) ?_ | refine kG_of (by first | exact rfl | omega) ?_ | refine klen_at ?_ | refine eql_at ?_ | refine neq_at ?_ | refine lss_at ?_ | refine leq_at ?_ | refine gtr_at ?_ | refine geq_at ?_ | refine add_at (by omega) (by omega) ?_ | refine sub_at (by omega) (by omega) ?_ | refine not_at ?_ | refine kO_at ?_ | refine kprt_at rfl ?_ | refine kprtN_at rfl ?_ | refine kcap_at ?_ | refine klenStr_at ?_ | refine kN_iat ?_ | refine kN_fat ?_ | refine kIf_T (by first | exact rfl | exact decT (by omega) | exact notT (decF (by omega))) ?_ | refine kIf_F (by first | exact rfl | exact decF (by omega) | exact notF (decT (by omega))) ?_)
  refine kcall_of (set_at C58.sp C58.gs (i := 0) (g := 1) (by rw [hgn3]; rfl) (c := 0) hq03 rfl (cell := 0) (by rw [hcs3]; decide) 9 3) ?_
  rintro v w61 ⟨rfl, S4, hG4, U4, T4⟩
  obtain ⟨o61, p61, C61, hl61, hm61⟩ := C58.turn T4 hG4
  have hxl := lt_of_blk hx58
  have hyl := lt_of_blk hy58
  have hpl := lt_of_blk hp58
  have hx61 := hm61.get hx58 (fun e => e hox45)
  have hy61 := hm61.get hy58 (fun e => e hoy45)
  have hp61 := hm61.get hp58 (fun e => e hop45)
  have hxe61 := hxe58.mod hm61 (fun k h1 h2 e => e (C45.hi k (by have := m50.size; omega)))
  repeat (first | refine kN_at ?_ | refine kB_at ?_ | refine kfld_of ?_ | refine kext_at rfl ?_ | refine kG_of (by first | exact rfl | omega) ?_ | refine klen_at ?_ | refine eql_at ?_ | refine neq_at ?_ | refine lss_at ?_ | refine leq_at ?_ | refine gtr_at ?_ | refine geq_at ?_ | refine add_at (by omega) (by omega) ?_ | refine sub_at (by omega) (by omega) ?_ | refine not_at ?_ | refine kO_at ?_ | refine kprt_at rfl ?_ | refine kprtN_at rfl ?_ | refine kcap_at ?_ | refine klenStr_at ?_ | refine kN_iat ?_ | refine kN_fat ?_ | refine kIf_T (by first | exact rfl | exact decT (by omega) | exact notT (decF (by omega))) ?_ | refine kIf_F (by first | exact rfl | exact decF (by omega) | exact notF (decT (by omega))) ?_)
  refine knew_of fun w65 h65 hs65 hb65 => ?_
  refine kst_of (vs := (pa 0 5).cells) hb65 rfl rfl rfl (by simp) (by simp [Part.cells]) fun w66 h66 hs66 hb66 => ?_
  have hw66 : blk w66 w61.heap.size = some (.cells (pa 0 5).cells.toArray 49) := hb66
  have m66 : Same w61 w66 := h65.trans' (h66.mono fun k _ e => .inr (by omega))
  have C66 := C61.loc m66
  have hy66 := m66.get hy61 (fun h => h)
  have hp66 := m66.get hp61 (fun h => h)
  have hxe66 := hxe61.same m66
  refine kfld_of ?_
  rw [kix_array]
  refine kG_of (by decide) ?_
  rw [add_mk]
  refine kld_of (v := .int .i64 5) hp66 rfl ?_
  refine eql_at ?_
  rw [decT rfl]
  refine kB_at ?_
  refine kIf_T rfl ?_
  rw [keq_nil_nil ifErr]
  refine kB_at ?_
  refine kIf_T rfl ?_
  rw [keq_nil_nil ifErr]
  refine kB_at ?_
  refine kIf_T rfl ?_
  have hL66 := hL.same C66.same
  refine kld_err hL66 (k := 7) h7 rfl rfl ?_
  refine kcall_of (isX_spec hL66 h7 h7 hxe66) ?_
  rintro v w80 ⟨rfl, rfl⟩
  rw [decT rfl]
  refine kB_at ?_
  refine kIf_T rfl ?_
  refine kldN_at (cs := (pa 0 5).cells) hw66 rfl (by omega) ?_
  refine kldN_at (cs := (pa 0 5).cells) hp66 rfl (by omega) ?_
  have hok : (pa 0 5).ok := by unfold Part.ok pa I64; decide
  rw [keq_partE hok hok, decT rfl]
  refine kB_at ?_
  refine kIf_T rfl ?_
  rw [keq_nil_nil ifErr]
  refine kB_at ?_
  refine kIf_T rfl ?_
  have hfr4 : S4.free = [3, 2] := by rw [U4.free, W3.free, B2.free, hfr1]; rfl
  have hgn4 : S4.gens = [(1, true), (1, true), (0, false), (0, false)] := U4.gens.trans hgn3
  have hmk1 : S1.masks = [0, 3] := by
    rw [B1.masks, maskP_perm (cs := twoC) (by decide) hp1 l1_fits, mask_l1]; rfl
  have hmk2 : S2.masks = [0, 3] := by
    rw [B2.masks, hmk1, maskP_perm (cs := twoC) (by decide) hp2 l2_fits, mask_l2]; rfl
  have hfl : (L2.filter fun x => decide (x.comp ≠ (1 : Int))) = [pa 0 0] := by
    have h1 : (L2.filter fun x => decide (x.comp ≠ (1 : Int))).Perm (l2.filter fun x => decide (x.comp ≠ (1 : Int))) := hp2.filter _
    have h2 : (l2.filter fun x => decide (x.comp ≠ (1 : Int))) = [pa 0 0] := by decide
    rw [h2] at h1
    exact List.perm_singleton.1 h1
  have hP31 : partsOf S3 1 = [pa 0 0] := hP3.trans hfl
  have hmk3 : S3.masks = [0, 3, 1] := by
    have := W3.masks
    rw [hP1] at this
    have h2 : S3.masks = addM S2.masks (maskP (L2.filter fun x => decide (x.comp ≠ (1 : Int)))) := this
    rw [h2, hfl, hmk2]; decide
  have htb4 : S4.tabs.length = 3 := by rw [U4.tabs, W3.tabs, hmk3]; rfl
  have hml4 : S4.tabs.length = S4.masks.length := by rw [htb4, U4.masks, hmk3]; rfl
  have hP40 : partsOf S4 0 = (L1.map fun x => if x.comp = (0 : Int) then (pa 0 5).setCell 0 9 3 else x) := by
    have := U4.parts
    rw [W3.others 0 1 (by omega) (by rw [hgn2]; rfl), hP0] at this
    exact this
  have hP41 : partsOf S4 1 = [pa 0 0] := (U4.others 1 1 (by omega) (by rw [hgn3]; rfl)).trans hP31
  have hpa : ∀ (i : Nat) (g : Int), S4.gens[i]? = some (g, true) ↔ (i = 0 ∧ g = 1) ∨ (i = 1 ∧ g = 1) := fun i g => by
    rw [hgn4]
    match i with
    | 0 => simp [eq_comm]
    | 1 => simp [eq_comm]
    | 2 => simp
    | 3 => simp
    | i + 4 => simp
  have hm40 : maskP (partsOf S4 0) = 3 := by
    rw [hP40]
    have h1 : (L1.map fun x => if x.comp = (0 : Int) then (pa 0 5).setCell 0 9 3 else x).Perm (l1.map fun x => if x.comp = (0 : Int) then (pa 0 5).setCell 0 9 3 else x) := hp1.map _
    have h2 : (l1.map fun x => if x.comp = (0 : Int) then (pa 0 5).setCell 0 9 3 else x) = [pa 1 0, ⟨0, 9, 0, 0, 0, 3⟩] := by decide
    rw [h2] at h1
    rw [maskP_perm (cs := twoC) (by decide) h1 (fun q hq => by
      simp only [List.mem_cons, List.not_mem_nil, or_false] at hq
      rcases hq with rfl | rfl
      · exact fits_two (c := 1) (by omega) 0
      · exact ⟨0, rfl, by decide, fun x hx => by
          have : x ∈ [(0 : Int), 0, 0] := hx
          simpa using this⟩)]
    decide
  have hm41 : maskP (partsOf S4 1) = 1 := by rw [hP41]; decide
  refine kcall_of (sCount_spec C66.sp) ?_
  rintro v w91 ⟨rfl, h91⟩
  have C91 := C66.loc h91
  rw [hgn4, hfr4, natV]
  refine eql_at ?_
  rw [decT (by decide)]
  refine kB_at ?_
  refine kIf_T rfl ?_
  refine kcall_of (sTables_spec C91.sp) ?_
  rintro v w95 ⟨rfl, rfl⟩
  rw [htb4, natV]
  refine eql_at ?_
  rw [decT (by decide)]
  refine kB_at ?_
  refine kIf_T rfl ?_
  refine kcall_of (match_at C91.sp C91.gs hml4 1 0 (by omega) (by omega)) ?_
  rintro v w99 ⟨M1, hJ1, hO1, h99, _⟩
  have C99 := C91.loc h99
  obtain ⟨ma, mn, mc, rfl, hms, _⟩ := hO1.is
  have hn1 : M1.length = 2 := hJ1.len (l := [(0, 1), (1, 1)]) (by decide) (fun i g => by
    rw [hpa]
    constructor
    · intro h
      simp at h
      rcases h with ⟨h1, rfl⟩ | ⟨h1, rfl⟩
      · have : i = 0 := by omega
        subst this; exact ⟨.inl ⟨rfl, rfl⟩, by rw [hm40]; decide⟩
      · have : i = 1 := by omega
        subst this; exact ⟨.inr ⟨rfl, rfl⟩, by rw [hm41]; decide⟩
    · rintro ⟨⟨rfl, rfl⟩ | ⟨rfl, rfl⟩, _⟩ <;> simp) (by decide)
  have hmn : mn = 2 := by
    have := hms.1
    rw [flat_len entC 2 (fun _ => rfl), hn1] at this
    omega
  subst hmn
  refine klen_at ?_
  refine eql_at ?_
  rw [decT (by decide)]
  refine kB_at ?_
  refine kIf_T rfl ?_
  refine kcall_of (match_at C99.sp C99.gs hml4 1 2 (by omega) (by omega)) ?_
  rintro v w105 ⟨M2, hJ2, hO2, h105, _⟩
  have C105 := C99.loc h105
  obtain ⟨ma2, mn2, mc2, rfl, hms2, _⟩ := hO2.is
  have hn2 : M2.length = 1 := hJ2.len (l := [(1, 1)]) (by decide) (fun i g => by
    rw [hpa]
    constructor
    · intro h
      simp at h
      have : i = 1 := by omega
      subst this
      obtain ⟨_, rfl⟩ := h
      exact ⟨.inr ⟨rfl, rfl⟩, by rw [hm41]; decide⟩
    · rintro ⟨⟨rfl, rfl⟩ | ⟨rfl, rfl⟩, h⟩
      · rw [hm40] at h; exact absurd h (by decide)
      · simp) (by decide)
  have hmn2 : mn2 = 1 := by
    have := hms2.1
    rw [flat_len entC 2 (fun _ => rfl), hn2] at this
    omega
  subst hmn2
  refine klen_at ?_
  refine eql_at ?_
  rw [decT (by decide)]
  refine kB_at ?_
  refine kIf_T rfl ?_
  refine kcall_of (changed_at C105.sp C105.gs 0 3) ?_
  rintro v w111 ⟨M3, hJ3, hO3, h111, _⟩
  have C111 := C105.loc h111
  obtain ⟨ma3, mn3, mc3, rfl, hms3, _⟩ := hO3.is
  have hn3' : M3.length = 1 := hJ3.len (l := [(0, 1)]) (by decide) (fun i g => by
    rw [hpa]
    constructor
    · intro h
      simp at h
      have : i = 0 := by omega
      subst this
      obtain ⟨_, rfl⟩ := h
      refine ⟨.inl ⟨rfl, rfl⟩, ⟨0, 9, 0, 0, 0, 3⟩, ?_, rfl, by decide⟩
      rw [hP40]
      exact List.mem_map.2 ⟨pa 0 5, hp1.mem_iff.2 (by simp [l1]), by decide⟩
    · rintro ⟨⟨rfl, rfl⟩ | ⟨rfl, rfl⟩, h⟩
      · simp
      · rw [hP41] at h
        obtain ⟨q, hq, _, h2⟩ := h
        have : q = pa 0 0 := by simpa using hq
        subst this
        exact absurd h2 (by decide)) (by decide)
  have hmn3 : mn3 = 1 := by
    have := hms3.1
    rw [flat_len entC 2 (fun _ => rfl), hn3'] at this
    omega
  subst hmn3
  refine klen_at ?_
  refine eql_at ?_
  rw [decT (by decide)]
  refine kB_at ?_
  refine kIf_T rfl ?_
  have hy111 := (((h91.trans h99).trans h105).trans h111).get hy66 (fun h => h)
  refine kldN_at hy111 rfl (by omega) ?_
  refine kcall_of (sAlive_spec C111.sp 1 1) ?_
  rintro v w118 ⟨rfl, h118⟩
  refine ⟨?_, C111.same.trans h118⟩
  have := alive_of (gens := S4.gens) (i := 1) (g := 1) (by rw [hgn4]; rfl)
  exact congrArg Value.bool this
end Go.Proofs.YtlkpadfkmdgjcaaGreatDoor
end
section
set_option linter.unusedSimpArgs false
set_option linter.unusedVariables false
namespace Go.Proofs.YtlkpadfkmdgjcaaGreatDoor
open Go Go.Ev
set_option linter.unusedVariables false
set_option linter.unusedSimpArgs false
set_option maxRecDepth 100000
attribute [local irreducible] kO kB kStr kInt kN kG kIf kfld kld kldN kst knew kmap kbld kbldS kext kcnv klenStr klen kcap kprt kprtN kbool kint kstr keq kun ksl kix kiv kta kmk kmm ksem ksemU kextf kcallV kcallM kcall kL

def wideQ (i : Nat) : Comp := ⟨⟨#[UInt8.ofNat (97 + i)]⟩, 1, decide (i % 2 = 0), 0, 0, 0, 0⟩
def wideC : List Comp := (List.range 8).map wideQ
theorem wide_str : ∀ j, j < 8 → (⟨#[97, 98, 99, 100, 101, 102, 103, 104]⟩ : ByteArray).extract j (j + 1) = ⟨#[UInt8.ofNat (97 + j)]⟩
  | 0, _ => rfl | 1, _ => rfl | 2, _ => rfl | 3, _ => rfl | 4, _ => rfl | 5, _ => rfl | 6, _ => rfl | 7, _ => rfl
  | n + 8, h => by omega
theorem wide_good : GoodSc wideC where
  len := by decide
  names q hq := by
    obtain ⟨i, hi, rfl⟩ := List.mem_map.1 hq
    have hi : i < 8 := by simpa using hi
    exact ⟨by show 1 ≤ 1; omega, by show 1 ≤ 8; omega, fun x hx => by
      have : x = UInt8.ofNat (97 + i) := by
        have hx : x ∈ [UInt8.ofNat (97 + i)] := hx
        simpa using hx
      subst this
      rw [UInt8.toNat_ofNat']
      omega⟩
  apart i j hi hj e := by
    have hi : i < 8 := hi
    have hj : j < 8 := hj
    simp only [wideC, List.getElem_map, List.getElem_range, wideQ] at e
    have e2 : [UInt8.ofNat (97 + i)] = [UInt8.ofNat (97 + j)] := congrArg (fun b : ByteArray => b.data.toList) e
    have e3 := congrArg UInt8.toNat (List.cons.inj e2).1
    rw [UInt8.toNat_ofNat', UInt8.toNat_ofNat'] at e3
    omega
  wide q hq := by
    obtain ⟨i, hi, rfl⟩ := List.mem_map.1 hq
    exact ⟨1, rfl, by decide, by decide⟩
  zero q hq := by
    obtain ⟨i, hi, rfl⟩ := List.mem_map.1 hq
    exact ⟨rfl, rfl, rfl, rfl⟩
theorem wide_spec (w : World) : Meets Tryz.prog 13 #[] w fun v w' => ∃ a c, v = scV a wideC.length c (.slice none 0 0) ∧ SlIs w' a wideC.length 7 (wideC.flatMap Comp.cells) ∧ Same w w' := by
  refine f13_ok ?_
  unfold f13
  refine knew_of fun w2 h2 hs2 hb2 => ?_
  refine kbld_of (cs := [.slice none 0 0, .slice none 0 0]) rfl ?_
  refine knew_of fun w5 h5 hs5 hb5 => ?_
  refine kst_of (vs := [.slice none 0 0, .slice none 0 0]) hb5 rfl rfl rfl (by simp) (by simp) fun w6 h6 hs6 hb6 => ?_
  have hb6 : blk w6 w2.heap.size = some (.cells #[.slice none 0 0, .slice none 0 0] 34) := hb6
  have hb26 := h6.get (h5.get hb2 (fun h => h)) (by omega)
  have m6 : Same w w6 := (h2.trans h5).trans' (h6.mono fun k _ e => .inr (by omega))
  refine kL1_of 8 (fun j x wr => x = .int .i64 j ∧ ∃ cv, blk wr w2.heap.size = some (.cells #[cv, .slice none 0 0] 34) ∧ Own wr cv 7 (((List.range j).map wideQ).flatMap Comp.cells) ∧ (∀ k, vblk cv k → w6.heap.size ≤ k) ∧ Mod (fun k => k = w2.heap.size) w6 wr) ⟨lI1_0 ⟨rfl, _, hb6, Own.nil _ _, (fun k hk => by obtain ⟨_, _, _, e⟩ := hk; cases e), Mod.refl _ _⟩, fun x wr hx => ?_⟩
  obtain ⟨j, hj, ⟨rfl, cv, hb, hO, hf, hm⟩, hJ⟩ := lI1_step hx
  unfold f13_0
  refine lss_at ?_
  refine kB_at ?_
  refine kIf_dec (fun hlt => ?_) (fun hge => ?_)
  · have hlt : j < 8 := by omega
    unfold f13_1
    have hbd : blk wr.drew w2.heap.size = _ := hb
    repeat (first | refine kN_at ?_ | refine kB_at ?_ | refine kfld_of ?_ | refine kext_at rfl ?_ | refine kld_at hbd rfl ?_ | refine kldN_at hbd rfl (by omega) ?_ | refine kG_of (by first | exact rfl | omega) ?_ | refine klen_at ?_ | refine eql_at ?_ | refine neq_at ?_ | refine lss_at ?_ | refine leq_at ?_ | refine gtr_at ?_ | refine geq_at ?_ | refine add_at (by omega) (by omega) ?_ | refine sub_at (by omega) (by omega) ?_ | refine not_at ?_ | refine kO_at ?_ | refine kprt_at rfl ?_ | refine kprtN_at rfl ?_ | refine kcap_at ?_ | refine klenStr_at ?_ | refine kN_iat ?_ | refine kN_fat ?_ | refine kIf_T (by first | exact rfl | exact decT (by omega) | exact notT (decF (by omega))) ?_ | refine kIf_F (by first | exact rfl | exact decF (by omega) | exact notF (decT (by omega))) ?_)
    rw [show ((j : Nat) : Int) + 1 = ((j + 1 : Nat) : Int) by omega, ksl_string rfl rfl]
    have hsz : (⟨#[97, 98, 99, 100, 101, 102, 103, 104]⟩ : ByteArray).size = 8 := rfl
    refine kG_of (by simp only [loV_int, hiV_int, hsz]; omega) ?_
    simp only [loV_int, hiV_int, Int.toNat_natCast]
    rw [wide_str j hlt, kint_rem]
    refine kG_of (by decide) ?_
    have hrem : ((j : Int)).tmod 2 = ((j % 2 : Nat) : Int) := by
      rw [Int.tmod_eq_emod_of_nonneg (by omega)]; omega
    rw [hrem]
    refine eql_at ?_
    have hrb : decide (((j % 2 : Nat) : Int) = 0) = decide (j % 2 = 0) := by
      apply decide_eq_decide.2; omega
    rw [hrb]
    refine kbld_of (cs := (wideQ j).cells) rfl ?_
    refine kbldS_of (cs := (wideQ j).cells) rfl fun w16 h16 hs16 hb16 => ?_
    have hb16' := h16.get hbd (fun h => h)
    refine kG_of (kld_at hb16' rfl ⟨rfl, rfl⟩) ?_
    have hOd : Own wr.drew cv 7 _ := hO.same (Mod.refl (fun _ => False) _).drew
    refine ksem_append apComp (by omega) (hOd.same h16) (Src.ofSlIs (hk := slComp_is.choose_spec) 1 (SlIs.blk hb16 rfl) (ones_comps [wideQ j])) (by rw [flat_len Comp.cells 7 (fun _ => rfl)]; simp [Comp.cells]; omega) (by rw [flat_len Comp.cells 7 (fun _ => rfl)]; simp [Comp.cells]; omega) ?_
    intro v' w18 ho hm' hf'
    have hl2 := lt_of_blk hb6
    have hmsz := hm.size
    have hb18 := hm'.get hb16' (fun e => by have := hf _ e; omega)
    obtain ⟨a', n', c', rfl, _⟩ := ho.is
    repeat (first | refine kN_at ?_ | refine kB_at ?_ | refine kfld_of ?_ | refine kext_at rfl ?_ | refine kG_of (by first | exact rfl | omega) ?_ | refine klen_at ?_ | refine eql_at ?_ | refine neq_at ?_ | refine lss_at ?_ | refine leq_at ?_ | refine gtr_at ?_ | refine geq_at ?_ | refine add_at (by omega) (by omega) ?_ | refine sub_at (by omega) (by omega) ?_ | refine not_at ?_ | refine kO_at ?_ | refine kprt_at rfl ?_ | refine kprtN_at rfl ?_ | refine kcap_at ?_ | refine klenStr_at ?_ | refine kN_iat ?_ | refine kN_fat ?_ | refine kIf_T (by first | exact rfl | exact decT (by omega) | exact notT (decF (by omega))) ?_ | refine kIf_F (by first | exact rfl | exact decF (by omega) | exact notF (decT (by omega))) ?_)
    refine kst1_of hb18 rfl rfl (by simp) fun w20 h20 hs20 hb20 => ?_
    simp only [List.setIfInBounds_toArray, List.set_cons_succ, List.set_cons_zero] at hb20
    repeat (first | refine kN_at ?_ | refine kB_at ?_ | refine kfld_of ?_ | refine kext_at rfl ?_ | refine kG_of (by first | exact rfl | omega) ?_ | refine klen_at ?_ | refine eql_at ?_ | refine neq_at ?_ | refine lss_at ?_ | refine leq_at ?_ | refine gtr_at ?_ | refine geq_at ?_ | refine add_at (by omega) (by omega) ?_ | refine sub_at (by omega) (by omega) ?_ | refine not_at ?_ | refine kO_at ?_ | refine kprt_at rfl ?_ | refine kprtN_at rfl ?_ | refine kcap_at ?_ | refine klenStr_at ?_ | refine kN_iat ?_ | refine kN_fat ?_ | refine kIf_T (by first | exact rfl | exact decT (by omega) | exact notT (decF (by omega))) ?_ | refine kIf_F (by first | exact rfl | exact decF (by omega) | exact notF (decT (by omega))) ?_)
    rw [cast_succ]
    have hs6' : w6.heap.size = w2.heap.size + 1 := by omega
    have hdz : wr.drew.heap.size = wr.heap.size := rfl
    have hf2 : ∀ k, vblk (.slice a' n' c') k → w6.heap.size ≤ k := fun k hk => by
      rcases hf' k hk with h | h
      · exact hf k h
      · omega
    refine hJ _ _ hlt ⟨rfl, _, hb20, ?_, hf2, ?_⟩
    · rw [List.range_succ, List.map_append, List.flatMap_append]
      have e : ([j].map wideQ).flatMap Comp.cells = (wideQ j).cells := by simp
      rw [e]
      exact ho.mod h20 fun k hk e => by have := hf2 k hk; omega
    · have y : Mod (fun k => k = w2.heap.size ∨ w6.heap.size ≤ k) wr w20 := (Mod.of_same ((Mod.refl (fun _ => False) wr).drew.trans h16)).trans ((hm'.mono fun k _ e => .inr (hf k e)).trans (h20.mono fun k _ e => .inl e))
      exact hm.trans' y
  · have : j = 8 := by omega
    subst this
    unfold f13_3
    obtain ⟨a', n', c', rfl, hsl, _⟩ := hO.is
    have hn : n' = wideC.length := by
      have := hsl.1
      rw [flat_len Comp.cells 7 (fun _ => rfl)] at this
      show n' = 8
      have e : ((List.range 8).map wideQ).length = 8 := by simp
      omega
    subst hn
    repeat (first | refine kN_at ?_ | refine kB_at ?_ | refine kfld_of ?_ | refine kext_at rfl ?_ | refine kld_at hb rfl ?_ | refine kldN_at hb rfl (by omega) ?_ | refine kG_of (by first | exact rfl | omega) ?_ | refine klen_at ?_ | refine eql_at ?_ | refine neq_at ?_ | refine lss_at ?_ | refine leq_at ?_ | refine gtr_at ?_ | refine geq_at ?_ | refine add_at (by omega) (by omega) ?_ | refine sub_at (by omega) (by omega) ?_ | refine not_at ?_ | refine kO_at ?_ | refine kprt_at rfl ?_ | refine kprtN_at rfl ?_ | refine kcap_at ?_ | refine klenStr_at ?_ | refine kN_iat ?_ | refine kN_fat ?_ | refine kIf_T (by first | exact rfl | exact decT (by omega) | exact notT (decF (by omega))) ?_ | refine kIf_F (by first | exact rfl | exact decF (by omega) | exact notF (decT (by omega))) ?_)
    have hbx := hm.get hb26 (by omega)
    refine kst_of (vs := [.slice a' wideC.length c', .slice none 0 0]) hbx rfl rfl rfl (by simp) (by simp) fun w24 h24 hs24 hb24 => ?_
    have hb24 : blk w24 w.heap.size = some (.cells #[.slice a' wideC.length c', .slice none 0 0] 34) := hb24
    repeat (first | refine kN_at ?_ | refine kB_at ?_ | refine kfld_of ?_ | refine kext_at rfl ?_ | refine kld_at hb24 rfl ?_ | refine kldN_at hb24 rfl (by omega) ?_ | refine kG_of (by first | exact rfl | omega) ?_ | refine klen_at ?_ | refine eql_at ?_ | refine neq_at ?_ | refine lss_at ?_ | refine leq_at ?_ | refine gtr_at ?_ | refine geq_at ?_ | refine add_at (by omega) (by omega) ?_ | refine sub_at (by omega) (by omega) ?_ | refine not_at ?_ | refine kO_at ?_ | refine kprt_at rfl ?_ | refine kprtN_at rfl ?_ | refine kcap_at ?_ | refine klenStr_at ?_ | refine kN_iat ?_ | refine kN_fat ?_ | refine kIf_T (by first | exact rfl | exact decT (by omega) | exact notT (decF (by omega))) ?_ | refine kIf_F (by first | exact rfl | exact decF (by omega) | exact notF (decT (by omega))) ?_)
    refine ⟨a', c', rfl, hsl.mod h24 fun k f e ek => by have := hf k ⟨f, _, _, by rw [e]⟩; have := h5.size; have := h6.size; omega, ?_⟩
    exact (m6.trans' (hm.mono fun k _ e => .inr (by omega))).trans' (h24.mono fun k _ e => .inr (by omega))
end Go.Proofs.YtlkpadfkmdgjcaaGreatDoor
end
section
set_option linter.unusedSimpArgs false
set_option linter.unusedVariables false
namespace Go.Proofs.YtlkpadfkmdgjcaaGreatDoor
open Go Go.Ev
set_option linter.unusedVariables false
set_option linter.unusedSimpArgs false
set_option maxRecDepth 100000
attribute [local irreducible] kO kB kStr kInt kN kG kIf kfld kld kldN kst knew kmap kbld kbldS kext kcnv klenStr klen kcap kprt kprtN kbool kint kstr keq kun ksl kix kiv kta kmk kmm ksem ksemU kextf kcallV kcallM kcall kL

def partQ (v i : Nat) : Part := ⟨(i : Int), ((v + i : Nat) : Int), 0, 0, 0, (i : Int)⟩
def partsL (m v k : Nat) : List Part := ((List.range k).filter fun i => m.testBit i).map (partQ v)
theorem partsL_len (m v k : Nat) : (partsL m v k).length ≤ k := by
  unfold partsL
  rw [List.length_map]
  have := List.length_filter_le (fun i => m.testBit i) (List.range k)
  simpa using this
theorem partsL_succ (m v k : Nat) : partsL m v (k + 1) = partsL m v k ++ (if m.testBit k then [partQ v k] else []) := by
  unfold partsL
  rw [List.range_succ, List.filter_append, List.map_append]
  congr 1
  by_cases h : m.testBit k
  · simp [h]
  · simp [h]
theorem parts_spec (m v : Nat) (hv : v ≤ 1000000) (w : World) : Meets Tryz.prog 15 #[msk m, .int .i64 v] w fun r w' => Own w' r 6 ((partsL m v 8).flatMap Part.cells) ∧ Same w w' ∧ ∀ k, vblk r k → w.heap.size ≤ k := by
  rw [msk]
  refine f15_ok ?_
  unfold f15
  refine kbldS_of (cs := []) rfl fun w2 h2 hs2 hb2 => ?_
  have hO2 : Own w2 (.slice (some ⟨w.heap.size, 0, none⟩) 0 0) 6 ((partsL m v 0).flatMap Part.cells) := Own.blk hb2 (n := 0) (by simp) (by simp [maxLen])
  refine kL2_of 8 (fun j x y wr => y = .int .i64 j ∧ Own wr x 6 ((partsL m v j).flatMap Part.cells) ∧ (∀ k, vblk x k → w.heap.size ≤ k) ∧ Same w wr) ⟨lI2_0 ⟨rfl, hO2, fun k hk => by rw [vblk_new hk]; exact Nat.le_refl _, h2⟩, fun x y wr hx => ?_⟩
  obtain ⟨j, hj, ⟨rfl, hO, hf, hm⟩, hJ⟩ := lI2_step hx
  have hlen := partsL_len m v j
  unfold f15_0
  refine lss_at ?_
  refine kB_at ?_
  refine kIf_dec (fun hlt => ?_) (fun hge => ?_)
  · have hlt : j < 8 := by omega
    unfold f15_1
    rw [kint_shr]
    refine kG_of (by omega) ?_
    have h32 : j ≤ IntKind.u32.bits := by show j ≤ 32; omega
    rw [shr_nat m j h32, kint_rem]
    refine kG_of (by decide) ?_
    have hrem : (((m / 2 ^ j : Nat) : Int)).tmod 2 = ((m / 2 ^ j % 2 : Nat) : Int) := by
      generalize m / 2 ^ j = z
      rw [Int.tmod_eq_emod_of_nonneg (by omega)]; omega
    rw [hrem]
    refine eql_at ?_
    have htb : m.testBit j = decide (m / 2 ^ j % 2 = 1) := Nat.testBit_eq_decide_div_mod_eq
    refine kB_at ?_
    refine kIf_dec (fun hb => ?_) (fun hb => ?_)
    · have hb' : m.testBit j = true := by rw [htb]; simp; omega
      have es := partsL_succ m v j
      rw [if_pos hb'] at es
      repeat (first | refine kN_at ?_ | refine kB_at ?_ | refine kfld_of ?_ | refine kext_at rfl ?_ | refine kG_of (by first | exact rfl | omega) ?_ | refine klen_at ?_ | refine eql_at ?_ | refine neq_at ?_ | refine lss_at ?_ | refine leq_at ?_ | refine gtr_at ?_ | refine geq_at ?_ | refine add_at (by omega) (by omega) ?_ | refine sub_at (by omega) (by omega) ?_ | refine not_at ?_ | refine kO_at ?_ | refine kprt_at rfl ?_ | refine kprtN_at rfl ?_ | refine kcap_at ?_ | refine klenStr_at ?_ | refine kN_iat ?_ | refine kN_fat ?_ | refine kIf_T (by first | exact rfl | exact decT (by omega) | exact notT (decF (by omega))) ?_ | refine kIf_F (by first | exact rfl | exact decF (by omega) | exact notF (decT (by omega))) ?_)
      rw [show ((v : Nat) : Int) + ((j : Nat) : Int) = ((v + j : Nat) : Int) by omega]
      refine kbld_of (cs := [.int .i64 ((v + j : Nat) : Int), .int .i64 0, .int .i64 0, .int .i64 0]) rfl ?_
      refine kbld_of (cs := (partQ v j).cells) rfl ?_
      refine kbldS_of (cs := (partQ v j).cells) rfl fun w11 h11 hs11 hb11 => ?_
      refine ksem_append apParts (by omega) (hO.same h11) (Src.ofSlIs (hk := slPart_is.choose_spec) 1 (SlIs.blk hb11 rfl) (ones_parts [partQ v j])) (by rw [flat_len Part.cells 6 (fun _ => rfl)]; simp [Part.cells]; omega) (by rw [flat_len Part.cells 6 (fun _ => rfl)]; simp [Part.cells]; omega) ?_
      intro v' w13 ho hm' hf'
      repeat (first | refine kN_at ?_ | refine kB_at ?_ | refine kfld_of ?_ | refine kext_at rfl ?_ | refine kG_of (by first | exact rfl | omega) ?_ | refine klen_at ?_ | refine eql_at ?_ | refine neq_at ?_ | refine lss_at ?_ | refine leq_at ?_ | refine gtr_at ?_ | refine geq_at ?_ | refine add_at (by omega) (by omega) ?_ | refine sub_at (by omega) (by omega) ?_ | refine not_at ?_ | refine kO_at ?_ | refine kprt_at rfl ?_ | refine kprtN_at rfl ?_ | refine kcap_at ?_ | refine klenStr_at ?_ | refine kN_iat ?_ | refine kN_fat ?_ | refine kIf_T (by first | exact rfl | exact decT (by omega) | exact notT (decF (by omega))) ?_ | refine kIf_F (by first | exact rfl | exact decF (by omega) | exact notF (decT (by omega))) ?_)
      rw [cast_succ]
      refine hJ _ _ _ hlt ⟨rfl, ?_, fun k hk => ?_, (hm.trans h11).trans' (hm'.mono fun k _ e => .inr (hf k e))⟩
      · rw [es, List.flatMap_append]
        have e : [partQ v j].flatMap Part.cells = (partQ v j).cells := by simp
        rw [e]; exact ho
      · rcases hf' k hk with h | h
        · exact hf k h
        · have := hm.size; omega
    · have hb' : ¬ m.testBit j = true := by rw [htb]; simp; omega
      have es := partsL_succ m v j
      rw [if_neg hb', List.append_nil] at es
      unfold f15_2
      repeat (first | refine kN_at ?_ | refine kB_at ?_ | refine kfld_of ?_ | refine kext_at rfl ?_ | refine kG_of (by first | exact rfl | omega) ?_ | refine klen_at ?_ | refine eql_at ?_ | refine neq_at ?_ | refine lss_at ?_ | refine leq_at ?_ | refine gtr_at ?_ | refine geq_at ?_ | refine add_at (by omega) (by omega) ?_ | refine sub_at (by omega) (by omega) ?_ | refine not_at ?_ | refine kO_at ?_ | refine kprt_at rfl ?_ | refine kprtN_at rfl ?_ | refine kcap_at ?_ | refine klenStr_at ?_ | refine kN_iat ?_ | refine kN_fat ?_ | refine kIf_T (by first | exact rfl | exact decT (by omega) | exact notT (decF (by omega))) ?_ | refine kIf_F (by first | exact rfl | exact decF (by omega) | exact notF (decT (by omega))) ?_)
      rw [cast_succ]
      exact hJ _ _ _ hlt ⟨rfl, by rw [es]; exact hO, hf, hm⟩
  · have : j = 8 := by omega
    subst this
    exact ⟨hO, hm, hf⟩
end Go.Proofs.YtlkpadfkmdgjcaaGreatDoor
end
section
set_option linter.unusedSimpArgs false
set_option linter.unusedVariables false
namespace Go.Proofs.YtlkpadfkmdgjcaaGreatDoor
open Go Go.Ev
set_option linter.unusedVariables false
set_option linter.unusedSimpArgs false
set_option maxRecDepth 100000
attribute [local irreducible] kO kB kStr kInt kN kG kIf kfld kld kldN kst knew kmap kbld kbldS kext kcnv klenStr klen kcap kprt kprtN kbool kint kstr keq kun ksl kix kiv kta kmk kmm ksem ksemU kextf kcallV kcallM kcall kL

theorem wideC_len : wideC.length = 8 := by decide
theorem wd_wide {i : Nat} (h : i < 8) : wdF wideC i = 1 := by
  unfold wdF
  have : wideC[i]? = some (wideQ i) := by simp [wideC, h]
  rw [this]; rfl
theorem partsL_fits {m v : Nat} : ∀ q ∈ partsL m v 8, FitsP wideC q := by
  intro q hq
  unfold partsL at hq
  obtain ⟨i, hi, rfl⟩ := List.mem_map.1 hq
  have hi : i < 8 := by simpa using (List.mem_filter.1 hi).1
  refine ⟨i, rfl, by rw [wideC_len]; exact hi, ?_⟩
  rw [wd_wide hi]
  intro x hx
  have : x ∈ [(0 : Int), 0, 0] := hx
  simpa using this
theorem partsL_comps {m v : Nat} (hm : m < 256) : (partsL m v 8).map (·.comp) = (listF m).map (fun c : Nat => (c : Int)) := by
  unfold partsL listF
  rw [List.map_map]
  have e : (List.range 32).filter (fun i => m.testBit i) = (List.range 8).filter (fun i => m.testBit i) := by
    have h1 : List.range 32 = List.range 8 ++ List.range' 8 24 := by decide
    rw [h1, List.filter_append]
    have h2 : (List.range' 8 24).filter (fun i => m.testBit i) = [] := by
      rw [List.filter_eq_nil_iff]
      intro a ha
      have ha : 8 ≤ a := by simp only [List.mem_range'_1] at ha; omega
      have : m < 2 ^ a := Nat.lt_of_lt_of_le (show m < 2 ^ 8 by omega) (Nat.pow_le_pow_right (by omega) ha)
      rw [Nat.testBit_lt_two_pow this]; simp
    rw [h2, List.append_nil]
  rw [e]; rfl
theorem partsL_mask {m v : Nat} (hm : m < 256) : maskP (partsL m v 8) = m := comps_mask (cs := wideC) (by decide) partsL_fits (by rw [wideC_len]; exact hm) (partsL_comps hm)
theorem partsL_nt {m v : Nat} (hm : m < 256) : NoTwice (partsL m v 8) := by
  unfold NoTwice
  rw [partsL_comps hm]
  unfold List.Nodup
  rw [List.pairwise_map]
  exact (listF_nodup _).imp (fun h e => h (by omega))
theorem msk_lt255 (x : Nat) : x &&& 255 < 256 := by
  have : x &&& 255 ≤ 255 := Nat.and_le_right
  omega
end Go.Proofs.YtlkpadfkmdgjcaaGreatDoor
end
section
set_option linter.unusedSimpArgs false
set_option linter.unusedVariables false
namespace Go.Proofs.YtlkpadfkmdgjcaaGreatDoor
open Go Go.Ev
set_option linter.unusedVariables false
set_option linter.unusedSimpArgs false
set_option maxRecDepth 100000
attribute [local irreducible] kO kB kStr kInt kN kG kIf kfld kld kldN kst knew kmap kbld kbldS kext kcnv klenStr klen kcap kprt kprtN kbool kint kstr keq kun ksl kix kiv kta kmk kmm ksem ksemU kextf kcallV kcallM kcall kL

/-! ### A part more -/
theorem with_turns {w : World} {bc : Nat} {q : Part} (hb : blk w bc = some (.cells q.cells.toArray 49)) {L : List Part} (hlen : L.length ≤ 1000000) :
    Turns w bc 85 #[.pointer (some ⟨bc, 0, none⟩)] L (L ++ [q]) := by
  intro w1 sv hsz hbc hv hO
  show Meets Tryz.prog 85 #[sv, .pointer (some ⟨bc, 0, none⟩)] w1 _
  refine f85_ok ?_
  unfold f85
  refine kldN_at (cs := q.cells) (hbc.trans hb) rfl (by omega) ?_
  refine kbldS_of (cs := q.cells) rfl fun w3 h3 hs3 hb3 => ?_
  refine ksem_append apParts (by omega) (hO.same h3) (Src.ofSlIs (hk := slPart_is.choose_spec) 1 (SlIs.blk hb3 rfl) (ones_parts [q])) (by rw [flat_len Part.cells 6 (fun _ => rfl)]; simp [Part.cells]; omega) (by rw [flat_len Part.cells 6 (fun _ => rfl)]; simp [Part.cells]; omega) ?_
  intro v' w' ho hm hf
  have h3s := h3.size
  refine ⟨?_, (Mod.of_same h3).trans hm, fun k hk => (hf k hk).imp id fun h => by omega⟩
  rw [List.flatMap_append]
  simpa using ho
theorem listF_with {m c : Nat} (hc : c < 32) : ∀ x, x ∈ listF (m ||| 2 ^ c) ↔ x ∈ listF m ∨ x = c := fun x => by
  rw [listF_mem, listF_mem, Nat.testBit_or, Nat.testBit_two_pow, Bool.or_eq_true, decide_eq_true_eq]
  constructor
  · rintro ⟨h1, h2 | h2⟩
    · exact .inl ⟨h1, h2⟩
    · exact .inr h2.symm
  · rintro (⟨h1, h2⟩ | rfl)
    · exact ⟨h1, .inl h2⟩
    · exact ⟨hc, .inr rfl⟩
/-- A part more among sorted ones: where it belongs. -/
def insP (q : Part) (L : List Part) : List Part := (L.filter fun x => decide (x.comp < q.comp)) ++ q :: (L.filter fun x => decide (q.comp < x.comp))
theorem insP_perm {q : Part} {L : List Part} (h : ∀ x ∈ L, x.comp ≠ q.comp) : (L ++ [q]).Perm (insP q L) := by
  have h1 : ((L.filter fun x => decide (x.comp < q.comp)) ++ (L.filter fun x => !decide (x.comp < q.comp))).Perm L := List.filter_append_perm _ _
  have h2 : (L.filter fun x => !decide (x.comp < q.comp)) = L.filter fun x => decide (q.comp < x.comp) := by
    apply List.filter_congr
    intro x hx
    have := h x hx
    simp only [← decide_not, decide_eq_decide]
    omega
  rw [h2] at h1
  unfold insP
  refine (h1.symm.append_right [q]).trans ?_
  rw [List.append_assoc]
  exact List.Perm.append_left _ (List.perm_append_comm.trans (by simp))
end Go.Proofs.YtlkpadfkmdgjcaaGreatDoor
end
section
set_option linter.unusedSimpArgs false
set_option linter.unusedVariables false
namespace Go.Proofs.YtlkpadfkmdgjcaaGreatDoor
open Go Go.Ev
set_option linter.unusedVariables false
set_option linter.unusedSimpArgs false
set_option maxRecDepth 100000

theorem insP_comps {L : List Part} {m c : Nat} (hc : c < 32) {q : Part} (hq : q.comp = (c : Int)) (hL : L.map (·.comp) = (listF m).map (fun c : Nat => (c : Int))) (hno : c ∉ listF m) : (insP q L).map (·.comp) = (listF (m ||| 2 ^ c)).map (fun c : Nat => (c : Int)) := by
  have hmem : ∀ x ∈ L, x.comp ≠ q.comp := fun x hx e => by
    have h1 : x.comp ∈ (listF m).map (fun c : Nat => (c : Int)) := hL ▸ List.mem_map.2 ⟨x, hx, rfl⟩
    obtain ⟨d, hd, e2⟩ := List.mem_map.1 h1
    have : d = c := by omega
    subst this; exact hno hd
  have hp := insP_perm hmem
  have hsL : L.Pairwise (fun x y => x.comp ≤ y.comp) := by
    have : (L.map (·.comp)).Pairwise (fun x y : Int => x ≤ y) := by
      rw [hL, List.pairwise_map]
      exact (listF_sorted m).imp (fun h => by omega)
    rwa [List.pairwise_map] at this
  refine List.Perm.eq_of_pairwise (le := fun x y : Int => x ≤ y) (fun a b _ _ h1 h2 => by omega) ?_ ?_ ?_
  · rw [List.pairwise_map]
    unfold insP
    rw [List.pairwise_append]
    refine ⟨hsL.filter _, ?_, ?_⟩
    · rw [List.pairwise_cons]
      refine ⟨fun x hx => ?_, hsL.filter _⟩
      have := (List.mem_filter.1 hx).2
      simp at this; omega
    · intro x hx y hy
      have h1 := (List.mem_filter.1 hx).2
      simp at h1
      rcases List.mem_cons.1 hy with rfl | hy
      · omega
      · have h2 := (List.mem_filter.1 hy).2
        simp at h2; omega
  · rw [List.pairwise_map]; exact (listF_sorted _).imp (fun h => by omega)
  · have hn2 : ((listF (m ||| 2 ^ c)).map (fun c : Nat => (c : Int))).Nodup := by
      unfold List.Nodup
      rw [List.pairwise_map]
      exact (listF_nodup _).imp (fun h e => h (by omega))
    have hn1 : ((L ++ [q]).map (·.comp)).Nodup := by
      rw [List.map_append, hL, List.nodup_append]
      refine ⟨?_, by simp, ?_⟩
      · unfold List.Nodup
        rw [List.pairwise_map]
        exact (listF_nodup _).imp (fun h e => h (by omega))
      · intro a ha b hb e
        obtain ⟨d, hd, rfl⟩ := List.mem_map.1 ha
        simp at hb
        subst hb
        have : d = c := by omega
        subst this; exact hno hd
    refine (hp.map _).symm.trans ((List.perm_ext_iff_of_nodup hn1 hn2).2 fun a => ?_)
    rw [List.map_append, hL, List.mem_append]
    constructor
    · rintro (h | h)
      · obtain ⟨d, hd, rfl⟩ := List.mem_map.1 h
        exact List.mem_map.2 ⟨d, (listF_with hc d).2 (.inl hd), rfl⟩
      · simp at h
        subst h
        exact List.mem_map.2 ⟨c, (listF_with hc c).2 (.inr rfl), hq.symm⟩
    · intro h
      obtain ⟨d, hd, rfl⟩ := List.mem_map.1 h
      rcases (listF_with hc d).1 hd with h | rfl
      · exact .inl (List.mem_map.2 ⟨d, h, rfl⟩)
      · right; simp [hq]
end Go.Proofs.YtlkpadfkmdgjcaaGreatDoor
end
section
set_option linter.unusedSimpArgs false
set_option linter.unusedVariables false
namespace Go.Proofs.YtlkpadfkmdgjcaaGreatDoor
open Go Go.Ev
set_option linter.unusedVariables false
set_option linter.unusedSimpArgs false
set_option maxRecDepth 100000
attribute [local irreducible] kO kB kStr kInt kN kG kIf kfld kld kldN kst knew kmap kbld kbldS kext kcnv klenStr klen kcap kprt kprtN kbool kint kstr keq kun ksl kix kiv kta kmk kmm ksem ksemU kextf kcallV kcallM kcall kL

theorem insert_at {o : Lab} {w : World} (hD : DeAt w) {b : Nat} {p : Ptrs} {S : SM} (h : StoreP o w b p S) (hDo : o 18 = none) {t : Nat} (hG : GS S t) (ht : t ≤ 10000) {i : Nat} {g : Int} (hg : S.gens[i]? = some (g, true)) {q : Part} (hq : FitsP S.cs q) (hno : ∀ x ∈ partsOf S i, x.comp ≠ q.comp) :
    Meets Tryz.prog 18 #[ptrV b, entV i g, .agg q.cells.toArray] w fun v w' => v = .nilIface ∧ ∃ S', GS S' (t + 1) ∧ Went S S' (insP q (partsOf S i)) i ∧ Turned o w b S' w' := by
  obtain ⟨n, r, hsp, hn, hnm, hcol, hpe, hce, hmap, hfit, hmk, hmlt, hpc⟩ := parts_ok h hG hg
  obtain ⟨c, hqc, hcl, hqcl⟩ := id hq
  have hcs := h.good.1
  have hp16 : 2 ^ S.cs.length ≤ 2 ^ 16 := Nat.pow_le_pow_right (by omega) hcs
  have hml := hG.ml
  have hc32 : c < 32 := by omega
  have hcn : c ∉ listF S.masks[n] := fun hm => by
    have h1 : (c : Int) ∈ (partsOf S i).map (·.comp) := hmap ▸ List.mem_map.2 ⟨c, hm, rfl⟩
    obtain ⟨x, hx, e⟩ := List.mem_map.1 h1
    exact hno x hx (by rw [e, hqc])
  have hcm : c ∉ compsM S.masks n := hce ▸ hcn
  have hLc := insP_comps hc32 hqc hmap hcn
  have hperm := insP_perm hno
  have hlen : (partsOf S i).length ≤ 32 := by
    have := congrArg List.length hmap
    simp only [List.length_map] at this
    have := listF_len S.masks[n]
    omega
  have hfit' : ∀ x ∈ insP q (partsOf S i), FitsP S.cs x := fun x hx => by
    have := hperm.mem_iff.2 hx
    rcases List.mem_append.1 this with h | h
    · exact hfit x h
    · simp at h; subst h; exact hq
  have hm'lt : S.masks[n] ||| 2 ^ c < 2 ^ S.cs.length := Nat.or_lt_two_pow hmlt (Nat.pow_lt_pow_right (by omega) hcl)
  have hm' := comps_mask hcs hfit' hm'lt hLc
  rw [ptrV]
  refine f18_ok ?_
  unfold f18
  refine knew_of fun w2 hm2 hs2 hb2 => ?_
  have hb2 : blk w2 w.heap.size = some (.cells #[.int .i64 i, .int .i64 g] 37) := hb2
  refine knew_of fun w4 hm4 hs4 hb4 => ?_
  have hb4 : blk w4 w2.heap.size = some (.cells q.cells.toArray 49) := hb4
  have he4 := hm4.get hb2 (fun h => h)
  have m4 : Same w w4 := hm2.trans hm4
  have hP4 := h.cut m4
  have hcutn : ∀ k, w.heap.size ≤ k → cutL o w.heap.size k = none := fun k hk => cutL_none hk
  have hDo0 : cutL o w.heap.size 18 = none := by
    unfold cutL; split
    · exact hDo
    · rfl
  repeat (first | refine kN_at ?_ | refine kB_at ?_ | refine kfld_of ?_ | refine kext_at rfl ?_ | refine kld_at he4 rfl ?_ | refine kldN_at he4 rfl (by omega) ?_ | refine kG_of (by first | exact rfl | omega) ?_ | refine klen_at ?_ | refine eql_at ?_ | refine neq_at ?_ | refine lss_at ?_ | refine leq_at ?_ | refine gtr_at ?_ | refine geq_at ?_ | refine add_at (by omega) (by omega) ?_ | refine sub_at (by omega) (by omega) ?_ | refine not_at ?_ | refine kO_at ?_ | refine kprt_at rfl ?_ | refine kprtN_at rfl ?_ | refine kcap_at ?_ | refine klenStr_at ?_ | refine kN_iat ?_ | refine kN_fat ?_ | refine kIf_T (by first | exact rfl | exact decT (by omega) | exact notT (decF (by omega))) ?_ | refine kIf_F (by first | exact rfl | exact decF (by omega) | exact notF (decT (by omega))) ?_)
  refine kcall_of (sSpot_spec hP4 hg hsp) ?_
  rintro v w7 ⟨rfl, h7⟩
  repeat (first | refine kN_at ?_ | refine kB_at ?_ | refine kfld_of ?_ | refine kext_at rfl ?_ | refine kG_of (by first | exact rfl | omega) ?_ | refine klen_at ?_ | refine eql_at ?_ | refine neq_at ?_ | refine lss_at ?_ | refine leq_at ?_ | refine gtr_at ?_ | refine geq_at ?_ | refine add_at (by omega) (by omega) ?_ | refine sub_at (by omega) (by omega) ?_ | refine not_at ?_ | refine kO_at ?_ | refine kprt_at rfl ?_ | refine kprtN_at rfl ?_ | refine kcap_at ?_ | refine klenStr_at ?_ | refine kN_iat ?_ | refine kN_fat ?_ | refine kIf_T (by first | exact rfl | exact decT (by omega) | exact notT (decF (by omega))) ?_ | refine kIf_F (by first | exact rfl | exact decF (by omega) | exact notF (decT (by omega))) ?_)
  refine knew_of fun w11 h11 hs11 hb11 => ?_
  refine kst_of (vs := [natV n, natV r]) hb11 rfl rfl rfl (by simp) (by simp) fun w12 h12 hs12 hb12 => ?_
  have hb12 : blk w12 w7.heap.size = some (.cells #[.int .i64 n, .int .i64 r] 153) := hb12
  have hsz7 := h7.size
  have m12 : Same w4 w12 := (h7.trans h11).trans' (h12.mono fun k _ e => .inr (by omega))
  rw [keq_nil_nil' ifErr]
  refine kB_at ?_
  refine kIf_F rfl ?_
  have hp12 := m12.get hb4 (fun h => h)
  refine kldN_at (cs := q.cells) hp12 rfl (by omega) ?_
  refine kcall_of (sFits_spec (hP4.same m12) q hq) ?_
  rintro v w17 ⟨rfl, h17⟩
  refine not_at ?_
  refine kB_at ?_
  refine kIf_F rfl ?_
  have m17 : Same w4 w17.drew := (m12.trans h17).trans (Mod.refl (fun _ => False) _).drew
  have hp17 : blk w17.drew w2.heap.size = _ := h17.get hp12 (fun h => h)
  have hb17 : blk w17.drew w7.heap.size = _ := h17.get hb12 (fun h => h)
  have he17 := m17.get he4 (fun h => h)
  have hsz17 : w12.heap.size ≤ w17.drew.heap.size := h17.size
  generalize w17.drew = wa at *
  have hPa := hP4.same m17
  have hba := hPa.here
  obtain ⟨ta, tc, et, hts⟩ := hPa.ptab hn
  rw [et] at hba
  have hT := hPa.tab n hn
  obtain ⟨q1, rv, bm, q2, q3, q4, q5, q6, q7⟩ := id hT
  repeat (first | refine kN_at ?_ | refine kB_at ?_ | refine kfld_of ?_ | refine kext_at rfl ?_ | refine kld_at hba rfl ?_ | refine kld_at hb17 rfl ?_ | refine kldN_at hba rfl (by omega) ?_ | refine kldN_at hb17 rfl (by omega) ?_ | refine kG_of (by first | exact rfl | omega) ?_ | refine klen_at ?_ | refine eql_at ?_ | refine neq_at ?_ | refine lss_at ?_ | refine leq_at ?_ | refine gtr_at ?_ | refine geq_at ?_ | refine add_at (by omega) (by omega) ?_ | refine sub_at (by omega) (by omega) ?_ | refine not_at ?_ | refine kO_at ?_ | refine kprt_at rfl ?_ | refine kprtN_at rfl ?_ | refine kcap_at ?_ | refine klenStr_at ?_ | refine kN_iat ?_ | refine kN_fat ?_ | refine kIf_T (by first | exact rfl | exact decT (by omega) | exact notT (decF (by omega))) ?_ | refine kIf_F (by first | exact rfl | exact decF (by omega) | exact notF (decT (by omega))) ?_)
  have ele : (List.range S.tabs.length).length = S.tabs.length := List.length_range
  refine kixld_of (F := fun i => ptrV (p.pt i)) (c := tc) (l := List.range S.tabs.length) hts (show n < (List.range S.tabs.length).length by omega) rfl ?_ |> fun h => by rw [ele] at h; exact h
  rw [List.getElem_range, ptrV]
  refine kG_of rfl ?_
  repeat (first | refine kN_at ?_ | refine kB_at ?_ | refine kfld_of ?_ | refine kext_at rfl ?_ | refine kld_at q2 rfl ?_ | refine kldN_at q2 rfl (by omega) ?_ | refine kG_of (by first | exact rfl | omega) ?_ | refine klen_at ?_ | refine eql_at ?_ | refine neq_at ?_ | refine lss_at ?_ | refine leq_at ?_ | refine gtr_at ?_ | refine geq_at ?_ | refine add_at (by omega) (by omega) ?_ | refine sub_at (by omega) (by omega) ?_ | refine not_at ?_ | refine kO_at ?_ | refine kprt_at rfl ?_ | refine kprtN_at rfl ?_ | refine kcap_at ?_ | refine klenStr_at ?_ | refine kN_iat ?_ | refine kN_fat ?_ | refine kIf_T (by first | exact rfl | exact decT (by omega) | exact notT (decF (by omega))) ?_ | refine kIf_F (by first | exact rfl | exact decF (by omega) | exact notF (decT (by omega))) ?_)
  refine kld_of (v := .int .i64 c) hp17 (by simp [Part.cells, hqc]) ?_
  refine kG_of rfl ?_
  have hne : ∀ x ∈ compsM S.masks n, (x : Int) ≠ (c : Int) := fun x hx e => hcm (by
    have : x = c := by omega
    exact this ▸ hx)
  refine klook_of Tryz.underlying147 Tryz.underlying3 zCol q6 (r := none) (by rw [lk_none (fun c => ptrV (p.pc n c)) c _ hne]) ?_
  refine kG_of rfl ?_
  rw [keq_ptr_nil' ptCol]
  refine kG_of rfl ?_
  refine kB_at ?_
  refine kIf_F rfl ?_
  unfold f18_0
  repeat (first | refine kN_at ?_ | refine kB_at ?_ | refine kfld_of ?_ | refine kext_at rfl ?_ | refine kld_at hba rfl ?_ | refine kld_at hb17 rfl ?_ | refine kldN_at hba rfl (by omega) ?_ | refine kldN_at hb17 rfl (by omega) ?_ | refine kG_of (by first | exact rfl | omega) ?_ | refine klen_at ?_ | refine eql_at ?_ | refine neq_at ?_ | refine lss_at ?_ | refine leq_at ?_ | refine gtr_at ?_ | refine geq_at ?_ | refine add_at (by omega) (by omega) ?_ | refine sub_at (by omega) (by omega) ?_ | refine not_at ?_ | refine kO_at ?_ | refine kprt_at rfl ?_ | refine kprtN_at rfl ?_ | refine kcap_at ?_ | refine klenStr_at ?_ | refine kN_iat ?_ | refine kN_fat ?_ | refine kIf_T (by first | exact rfl | exact decT (by omega) | exact notT (decF (by omega))) ?_ | refine kIf_F (by first | exact rfl | exact decF (by omega) | exact notF (decT (by omega))) ?_)
  refine kld_of (v := .int .i64 c) hp17 (by simp [Part.cells, hqc]) ?_
  refine kG_of rfl ?_
  have hPd := hPa.same (Mod.refl (fun _ => False) wa).drew
  have hed : blk wa.drew w.heap.size = _ := he17
  have hpd : blk wa.drew w2.heap.size = _ := hp17
  have m17 : Same w4 wa.drew := m17.trans (Mod.refl (fun _ => False) wa).drew
  have hsz17 : w12.heap.size ≤ wa.drew.heap.size := hsz17
  generalize wa.drew = wd at *
  refine kcall_of (withAt_spec hPd.atlas n hnm c hcl (by omega)) ?_
  rintro v w32 ⟨rfl, o2, hl2, hA2, hm32⟩
  have hP32 := hPd.setAtlas (by omega) hl2 hm32 hA2
  repeat (first | refine kN_at ?_ | refine kB_at ?_ | refine kfld_of ?_ | refine kext_at rfl ?_ | refine kG_of (by first | exact rfl | omega) ?_ | refine klen_at ?_ | refine eql_at ?_ | refine neq_at ?_ | refine lss_at ?_ | refine leq_at ?_ | refine gtr_at ?_ | refine geq_at ?_ | refine add_at (by omega) (by omega) ?_ | refine sub_at (by omega) (by omega) ?_ | refine not_at ?_ | refine kO_at ?_ | refine kprt_at rfl ?_ | refine kprtN_at rfl ?_ | refine kcap_at ?_ | refine klenStr_at ?_ | refine kN_iat ?_ | refine kN_fat ?_ | refine kIf_T (by first | exact rfl | exact decT (by omega) | exact notT (decF (by omega))) ?_ | refine kIf_F (by first | exact rfl | exact decF (by omega) | exact notF (decT (by omega))) ?_)
  rw [keq_nil_nil' ifErr]
  refine kB_at ?_
  refine kIf_F rfl ?_
  unfold f18_1
  have hsz2 := hm2.size
  have hsz4 := m4.size
  have hsz12 := m12.size
  have hsz32 := hm32.size
  have hFu : ∀ {T : Tag → Prop} k, w.heap.size ≤ k → ¬ FP (cutL o w.heap.size) T k := fun k hk ⟨t, e1, _⟩ => by rw [hcutn k hk] at e1; cases e1
  have he32 := hm32.get hed (hFu _ (by omega))
  have hp32 := hm32.get hpd (hFu _ (by omega))
  have hPc := hP32.frame (Mod.refl (fun _ => False) _) (fun _ _ _ h => h) (LabEq.cut w32 o2)
  have hu2 : ∀ k, w.heap.size ≤ k → k < wd.heap.size → cutL o2 w32.heap.size k = none := fun k h1 h2 => by
    unfold cutL; rw [if_pos (by omega), hl2 k h2]; exact hcutn k h1
  have hDlt := hD.lt
  have hDc : cutL o2 w32.heap.size 18 = none := by
    unfold cutL
    rw [if_pos (by omega), hl2 _ (by omega)]
    exact hDo0
  have hD32 : DeAt w32 := ((hD.same m4).same m17).mod hm32 fun ⟨t, e1, _⟩ => by rw [hDo0] at e1; cases e1
  repeat (first | refine kN_at ?_ | refine kB_at ?_ | refine kfld_of ?_ | refine kext_at rfl ?_ | refine kld_at he32 rfl ?_ | refine kldN_at he32 rfl (by omega) ?_ | refine kG_of (by first | exact rfl | omega) ?_ | refine klen_at ?_ | refine eql_at ?_ | refine neq_at ?_ | refine lss_at ?_ | refine leq_at ?_ | refine gtr_at ?_ | refine geq_at ?_ | refine add_at (by omega) (by omega) ?_ | refine sub_at (by omega) (by omega) ?_ | refine not_at ?_ | refine kO_at ?_ | refine kprt_at rfl ?_ | refine kprtN_at rfl ?_ | refine kcap_at ?_ | refine klenStr_at ?_ | refine kN_iat ?_ | refine kN_fat ?_ | refine kIf_T (by first | exact rfl | exact decT (by omega) | exact notT (decF (by omega))) ?_ | refine kIf_F (by first | exact rfl | exact decF (by omega) | exact notF (decT (by omega))) ?_)
  refine kcall_of (move_at hD32 hPc hDc hG h.tle ht hg (bc := w2.heap.size) (by omega) (hu2 _ (by omega) (by omega)) (with_turns hp32 (by omega)) hperm hLc hm' hfit') ?_
  rintro v w43 ⟨rfl, S', hG', hW, hTu⟩
  refine ⟨rfl, S', hG', hW, ?_⟩
  refine Turned.wrap m4 ?_ (Mod.refl _ _)
  refine Turned.seq (o1 := cutL o w.heap.size) (w1 := w4) (LabEq.refl _ _) (Mod.refl _ _) m17 ?_
  exact Turned.seq (o1 := cutL o2 w32.heap.size) (w1 := w32) (hl2.trans (LabEq.cut w32 o2) hm32.size) (hm32.mono fun k _ hk => FP.mono (fun _ _ => trivial) hk) (Mod.refl _ _) hTu
end Go.Proofs.YtlkpadfkmdgjcaaGreatDoor
end
section
set_option linter.unusedSimpArgs false
set_option linter.unusedVariables false
namespace Go.Proofs.YtlkpadfkmdgjcaaGreatDoor
open Go Go.Ev
set_option linter.unusedVariables false
set_option linter.unusedSimpArgs false
set_option maxRecDepth 100000
attribute [local irreducible] kO kB kStr kInt kN kG kIf kfld kld kldN kst knew kmap kbld kbldS kext kcnv klenStr klen kcap kprt kprtN kbool kint kstr keq kun ksl kix kiv kta kmk kmm ksem ksemU kextf kcallV kcallM kcall kL

/-- What holds in the loop of 'Parts'. -/
def PtInv (w0 : World) (p : Ptrs) (S : SM) (n r rI bm : Nat) (hn : n < S.tabs.length) (j : Nat) (x : Value) (w : World) : Prop :=
  ∃ seen : List Nat, seen.length = j ∧ seen.Nodup ∧ (∀ i ∈ seen, i < (compsM S.masks n).length) ∧
    blk w rI = some (.mapIter (some bm) ((compsM S.masks n).map fun (c : Nat) => ((c : Int), ptrV (p.pc n c))).length seen.toArray ((compsM S.masks n).map fun (c : Nat) => ((c : Int), ptrV (p.pc n c))).length) ∧
    Own w x 6 (((seenL (compsM S.masks n) seen).map (partAt S.tabs[n] r)).flatMap Part.cells) ∧ (∀ k, vblk x k → rI < k) ∧ Mod (fun k => k = rI) w0 w
theorem parts_at {o : Lab} {w : World} {b : Nat} {p : Ptrs} {S : SM} (h : StoreP o w b p S) {t : Nat} (hG : GS S t) {i : Nat} {g : Int} (hg : S.gens[i]? = some (g, true)) :
    Meets Tryz.prog 21 #[ptrV b, entV i g] w fun v w' => ∃ sv, v = .tuple #[sv, .nilIface] ∧ Own w' sv 6 ((partsOf S i).flatMap Part.cells) ∧ (∀ k, vblk sv k → w.heap.size ≤ k) ∧ Same w w' := by
  obtain ⟨n, r, hsp, hn, hnm, hcol, hpe, hce, hmap, hfit, hmk, hmlt, hpc⟩ := parts_ok h hG hg
  have hc64 : (compsM S.masks n).length ≤ 32 := by rw [hce]; exact listF_len _
  rw [ptrV]
  refine f21_ok ?_
  unfold f21
  refine knew_of fun w2 hm2 hs2 hb2 => ?_
  have hb2 : blk w2 w.heap.size = some (.cells #[.int .i64 i, .int .i64 g] 37) := hb2
  repeat (first | refine kN_at ?_ | refine kB_at ?_ | refine kfld_of ?_ | refine kext_at rfl ?_ | refine kld_at hb2 rfl ?_ | refine kldN_at hb2 rfl (by omega) ?_ | refine kG_of (by first | exact rfl | omega) ?_ | refine klen_at ?_ | refine eql_at ?_ | refine neq_at ?_ | refine lss_at ?_ | refine leq_at ?_ | refine gtr_at ?_ | refine geq_at ?_ | refine add_at (by omega) (by omega) ?_ | refine sub_at (by omega) (by omega) ?_ | refine not_at ?_ | refine kO_at ?_ | refine kprt_at rfl ?_ | refine kprtN_at rfl ?_ | refine kcap_at ?_ | refine klenStr_at ?_ | refine kN_iat ?_ | refine kN_fat ?_ | refine kIf_T (by first | exact rfl | exact decT (by omega) | exact notT (decF (by omega))) ?_ | refine kIf_F (by first | exact rfl | exact decF (by omega) | exact notF (decT (by omega))) ?_)
  refine kcall_of (sSpot_spec (h.same hm2) hg hsp) ?_
  rintro v w5 ⟨rfl, h5⟩
  repeat (first | refine kN_at ?_ | refine kB_at ?_ | refine kfld_of ?_ | refine kext_at rfl ?_ | refine kG_of (by first | exact rfl | omega) ?_ | refine klen_at ?_ | refine eql_at ?_ | refine neq_at ?_ | refine lss_at ?_ | refine leq_at ?_ | refine gtr_at ?_ | refine geq_at ?_ | refine add_at (by omega) (by omega) ?_ | refine sub_at (by omega) (by omega) ?_ | refine not_at ?_ | refine kO_at ?_ | refine kprt_at rfl ?_ | refine kprtN_at rfl ?_ | refine kcap_at ?_ | refine klenStr_at ?_ | refine kN_iat ?_ | refine kN_fat ?_ | refine kIf_T (by first | exact rfl | exact decT (by omega) | exact notT (decF (by omega))) ?_ | refine kIf_F (by first | exact rfl | exact decF (by omega) | exact notF (decT (by omega))) ?_)
  refine knew_of fun w9 h9 hs9 hb9 => ?_
  refine kst_of (vs := [natV n, natV r]) hb9 rfl rfl rfl (by simp) (by simp) fun w10 h10 hs10 hb10 => ?_
  have hb10 : blk w10.drew w5.heap.size = some (.cells #[.int .i64 n, .int .i64 r] 153) := hb10
  have hsz5 := h5.size
  have m10 : Same w w10.drew := (((hm2.trans h5).trans h9).trans' (h10.mono fun k _ e => .inr (by omega))).trans (Mod.refl (fun _ => False) _).drew
  rw [keq_nil_nil' ifErr]
  refine kB_at ?_
  refine kIf_F rfl ?_
  unfold f21_0
  have hs10 : w10.drew.heap.size = w5.heap.size + 1 := by show w10.heap.size = _; omega
  generalize w10.drew = wa at *
  have hPa := h.same m10
  have hba := hPa.here
  obtain ⟨ta, tc, et, hts⟩ := hPa.ptab hn
  rw [et] at hba
  have hT := hPa.tab n hn
  obtain ⟨q1, rv, bm, q2, q3, q4, q5, q6, q7⟩ := id hT
  repeat (first | refine kN_at ?_ | refine kB_at ?_ | refine kfld_of ?_ | refine kext_at rfl ?_ | refine kld_at hba rfl ?_ | refine kld_at hb10 rfl ?_ | refine kldN_at hba rfl (by omega) ?_ | refine kldN_at hb10 rfl (by omega) ?_ | refine kG_of (by first | exact rfl | omega) ?_ | refine klen_at ?_ | refine eql_at ?_ | refine neq_at ?_ | refine lss_at ?_ | refine leq_at ?_ | refine gtr_at ?_ | refine geq_at ?_ | refine add_at (by omega) (by omega) ?_ | refine sub_at (by omega) (by omega) ?_ | refine not_at ?_ | refine kO_at ?_ | refine kprt_at rfl ?_ | refine kprtN_at rfl ?_ | refine kcap_at ?_ | refine klenStr_at ?_ | refine kN_iat ?_ | refine kN_fat ?_ | refine kIf_T (by first | exact rfl | exact decT (by omega) | exact notT (decF (by omega))) ?_ | refine kIf_F (by first | exact rfl | exact decF (by omega) | exact notF (decT (by omega))) ?_)
  have ele : (List.range S.tabs.length).length = S.tabs.length := List.length_range
  refine kixld_of (F := fun i => ptrV (p.pt i)) (c := tc) (l := List.range S.tabs.length) hts (show n < (List.range S.tabs.length).length by omega) rfl ?_ |> fun h => by rw [ele] at h; exact h
  rw [List.getElem_range, ptrV]
  refine kG_of rfl ?_
  repeat (first | refine kN_at ?_ | refine kB_at ?_ | refine kfld_of ?_ | refine kext_at rfl ?_ | refine kld_at q2 rfl ?_ | refine kldN_at q2 rfl (by omega) ?_ | refine kG_of (by first | exact rfl | omega) ?_ | refine klen_at ?_ | refine eql_at ?_ | refine neq_at ?_ | refine lss_at ?_ | refine leq_at ?_ | refine gtr_at ?_ | refine geq_at ?_ | refine add_at (by omega) (by omega) ?_ | refine sub_at (by omega) (by omega) ?_ | refine not_at ?_ | refine kO_at ?_ | refine kprt_at rfl ?_ | refine kprtN_at rfl ?_ | refine kcap_at ?_ | refine klenStr_at ?_ | refine kN_iat ?_ | refine kN_fat ?_ | refine kIf_T (by first | exact rfl | exact decT (by omega) | exact notT (decF (by omega))) ?_ | refine kIf_F (by first | exact rfl | exact decF (by omega) | exact notF (decT (by omega))) ?_)
  refine krange_of Tryz.underlying147 q6 fun w21 h21 hs21 hb21 => ?_
  have hlr : p.pt n < wa.heap.size := lt_of_blk q2
  have hmsz := m10.size
  have hs21' : w21.heap.size = wa.heap.size + 1 := hs21
  refine kL1_of (compsM S.masks n).length (PtInv w21 p S n r wa.heap.size bm hn) ⟨lI1_0 ?_, fun x wr hx => ?_⟩
  · exact ⟨[], rfl, List.nodup_nil, fun i hi => by simp at hi, hb21, Own.nil _ _, (fun k hk => by obtain ⟨_, _, _, e⟩ := hk; cases e), Mod.refl _ _⟩
  obtain ⟨j, hj, ⟨seen, hsl, hnd, hsb, hit, hOx, hfx, hmr⟩, hJ⟩ := lI1_step hx
  have hlt6 := lt_of_blk q6
  have q6r : MapIs wr bm .i64 _ := (q6.mod h21 (fun h => h)).mod hmr (fun e => by omega)
  have hmr0 : Same w wr := (m10.trans h21).trans' (hmr.mono fun k _ e => .inr (by omega))
  unfold f21_1
  refine knext_of hit q6r (fun hall => ?_) (fun ix hix hnix w2' hm2' hs2' hit2 => ?_)
  · have hperm := seenL_perm hnd hsb (fun i hi => hall i (by simpa using hi))
    repeat (first | refine kN_at ?_ | refine kB_at ?_ | refine kfld_of ?_ | refine kext_at rfl ?_ | refine kG_of (by first | exact rfl | omega) ?_ | refine klen_at ?_ | refine eql_at ?_ | refine neq_at ?_ | refine lss_at ?_ | refine leq_at ?_ | refine gtr_at ?_ | refine geq_at ?_ | refine add_at (by omega) (by omega) ?_ | refine sub_at (by omega) (by omega) ?_ | refine not_at ?_ | refine kO_at ?_ | refine kprt_at rfl ?_ | refine kprtN_at rfl ?_ | refine kcap_at ?_ | refine klenStr_at ?_ | refine kN_iat ?_ | refine kN_fat ?_ | refine kIf_T (by first | exact rfl | exact decT (by omega) | exact notT (decF (by omega))) ?_ | refine kIf_F (by first | exact rfl | exact decF (by omega) | exact notF (decT (by omega))) ?_)
    refine kcall_of (sorted_spec hOx (by simp [hperm.length_eq]; omega)) ?_
    rintro v w77 ⟨L', g1, g2, g3, g4⟩
    have hL' := sort_unique (compsM_sorted S.masks n) (f := partAt S.tabs[n] r) hpc (hperm.map _) g1 g2
    rw [hL'] at g3
    rw [hpe]
    exact ⟨x, rfl, g3, fun k hk => by have := hfx k hk; omega, hmr0.trans' (g4.mono fun k _ e => .inr (by have := hfx k e; omega))⟩
  · have hixc : ix < (compsM S.masks n).length := by simpa using hix
    have hgi : ((compsM S.masks n).map fun (c : Nat) => ((c : Int), ptrV (p.pc n c)))[ix] = (((compsM S.masks n)[ix] : Int), ptrV (p.pc n (compsM S.masks n)[ix])) := by simp
    have hjl : j < (compsM S.masks n).length := by
      have hnd2 : (seen ++ [ix]).Nodup := List.nodup_append.2 ⟨hnd, by simp, fun a ha b hb e => by simp at hb; subst hb; subst e; exact hnix ha⟩
      have := List.Nodup.length_le_of_subset hnd2 (l₂ := List.range (compsM S.masks n).length) (fun a ha => by
        rcases List.mem_append.1 ha with h | h
        · simpa using hsb a h
        · simp at h; subst h; simpa using hixc)
      simp at this; omega
    repeat (first | refine kN_at ?_ | refine kB_at ?_ | refine kfld_of ?_ | refine kext_at rfl ?_ | refine kG_of (by first | exact rfl | omega) ?_ | refine klen_at ?_ | refine eql_at ?_ | refine neq_at ?_ | refine lss_at ?_ | refine leq_at ?_ | refine gtr_at ?_ | refine geq_at ?_ | refine add_at (by omega) (by omega) ?_ | refine sub_at (by omega) (by omega) ?_ | refine not_at ?_ | refine kO_at ?_ | refine kprt_at rfl ?_ | refine kprtN_at rfl ?_ | refine kcap_at ?_ | refine klenStr_at ?_ | refine kN_iat ?_ | refine kN_fat ?_ | refine kIf_T (by first | exact rfl | exact decT (by omega) | exact notT (decF (by omega))) ?_ | refine kIf_F (by first | exact rfl | exact decF (by omega) | exact notF (decT (by omega))) ?_)
    unfold f21_2
    refine kentry_of hix hit2 (q6r.mod hm2' (fun e => by omega)) ?_
    rw [hgi]
    generalize hc : (compsM S.masks n)[ix] = c at *
    have hcm : c ∈ compsM S.masks n := hc ▸ List.getElem_mem hixc
    have hzr := hmr.size
    have hm02 : Same w w2' := hmr0.trans' (hm2'.mono fun k _ e => .inr (by omega))
    have hCol := ((h.same hm02).tab n hn).col hcm
    have hb2r : blk w2' w5.heap.size = some (.cells #[.int .i64 n, .int .i64 r] 153) := hm2'.get (hmr.get (h21.get hb10 (fun h => h)) (by omega)) (by omega)
    repeat (first | refine kN_at ?_ | refine kB_at ?_ | refine kfld_of ?_ | refine kext_at rfl ?_ | refine kld_at hb2r rfl ?_ | refine kldN_at hb2r rfl (by omega) ?_ | refine kG_of (by first | exact rfl | omega) ?_ | refine klen_at ?_ | refine eql_at ?_ | refine neq_at ?_ | refine lss_at ?_ | refine leq_at ?_ | refine gtr_at ?_ | refine geq_at ?_ | refine add_at (by omega) (by omega) ?_ | refine sub_at (by omega) (by omega) ?_ | refine not_at ?_ | refine kO_at ?_ | refine kprt_at rfl ?_ | refine kprtN_at rfl ?_ | refine kcap_at ?_ | refine klenStr_at ?_ | refine kN_iat ?_ | refine kN_fat ?_ | refine kIf_T (by first | exact rfl | exact decT (by omega) | exact notT (decF (by omega))) ?_ | refine kIf_F (by first | exact rfl | exact decF (by omega) | exact notF (decT (by omega))) ?_)
    have hrc := hcol c hcm
    refine kcall_of (cRow_spec hCol hrc) ?_
    rintro v w31 ⟨rfl, hm31⟩
    repeat (first | refine kN_at ?_ | refine kB_at ?_ | refine kfld_of ?_ | refine kext_at rfl ?_ | refine kG_of (by first | exact rfl | omega) ?_ | refine klen_at ?_ | refine eql_at ?_ | refine neq_at ?_ | refine lss_at ?_ | refine leq_at ?_ | refine gtr_at ?_ | refine geq_at ?_ | refine add_at (by omega) (by omega) ?_ | refine sub_at (by omega) (by omega) ?_ | refine not_at ?_ | refine kO_at ?_ | refine kprt_at rfl ?_ | refine kprtN_at rfl ?_ | refine kcap_at ?_ | refine klenStr_at ?_ | refine kN_iat ?_ | refine kN_fat ?_ | refine kIf_T (by first | exact rfl | exact decT (by omega) | exact notT (decF (by omega))) ?_ | refine kIf_F (by first | exact rfl | exact decF (by omega) | exact notF (decT (by omega))) ?_)
    refine knew_of fun w35 h35 hs35 hb35 => ?_
    refine kst_of (vs := ((S.tabs[n].col c)[r]).cells) hb35 rfl rfl rfl (by simp) (by simp [Part.cells]) fun w36 h36 hs36 hb36 => ?_
    have hb36 : blk w36 w31.heap.size = some (.cells ((S.tabs[n].col c)[r]).cells.toArray 49) := hb36
    rw [keq_nil_nil' ifErr]
    refine kB_at ?_
    refine kIf_F rfl ?_
    unfold f21_3
    repeat (first | refine kN_at ?_ | refine kB_at ?_ | refine kfld_of ?_ | refine kext_at rfl ?_ | refine kld_at hb36 rfl ?_ | refine kldN_at hb36 rfl (by omega) ?_ | refine kG_of (by first | exact rfl | omega) ?_ | refine klen_at ?_ | refine eql_at ?_ | refine neq_at ?_ | refine lss_at ?_ | refine leq_at ?_ | refine gtr_at ?_ | refine geq_at ?_ | refine add_at (by omega) (by omega) ?_ | refine sub_at (by omega) (by omega) ?_ | refine not_at ?_ | refine kO_at ?_ | refine kprt_at rfl ?_ | refine kprtN_at rfl ?_ | refine kcap_at ?_ | refine klenStr_at ?_ | refine kN_iat ?_ | refine kN_fat ?_ | refine kIf_T (by first | exact rfl | exact decT (by omega) | exact notT (decF (by omega))) ?_ | refine kIf_F (by first | exact rfl | exact decF (by omega) | exact notF (decT (by omega))) ?_)
    refine kbldS_of (cs := ((S.tabs[n].col c)[r]).cells) rfl fun w41 h41 hs41 hb41 => ?_
    have hz2 := hm2'.size
    have hz31 := hm31.size
    have m41 : Same w2' w41 := (hm31.trans (h35.trans' (h36.mono fun k _ e => .inr (by omega)))).trans h41
    have hO41 : Own w41 x 6 _ := (hOx.mod hm2' (fun k hk e => by have := hfx k hk; omega)).same m41
    have hpl : (seenL (compsM S.masks n) seen).length = j := by simp [seenL, hsl]
    refine ksem_append apParts (by omega) hO41 (Src.ofSlIs (hk := slPart_is.choose_spec) 1 (SlIs.blk hb41 rfl) (ones_parts [(S.tabs[n].col c)[r]])) (by rw [flat_len Part.cells 6 (fun _ => rfl)]; simp [hpl, Part.cells]; omega) (by rw [flat_len Part.cells 6 (fun _ => rfl)]; simp [hpl, Part.cells]; omega) ?_
    intro v' w43 ho43 hm43 hf43
    have hit43 := hm43.get (m41.get hit2 (fun h => h)) (fun e => by have := hfx _ e; omega)
    refine hJ _ _ hjl ⟨seen ++ [ix], by simp [hsl], ?_, ?_, hit43, ?_, ?_, ?_⟩
    · exact List.nodup_append.2 ⟨hnd, by simp, fun a ha b hb e => by simp at hb; subst hb; subst e; exact hnix ha⟩
    · intro a ha
      rcases List.mem_append.1 ha with h | h
      · exact hsb a h
      · simp at h; subst h; exact hixc
    · rw [seenL_snoc _ _ _ hixc, hc, List.map_append, List.flatMap_append]
      have e : ([c].map (partAt S.tabs[n] r)).flatMap Part.cells = ((S.tabs[n].col c)[r]).cells := by
        simp [partAt, List.getElem?_eq_getElem hrc]
      rw [e]
      exact ho43
    · intro k hk
      rcases hf43 k hk with h | h
      · exact hfx k h
      · have := m41.size; omega
    · have y3 : Mod (fun i => i = wa.heap.size ∨ w21.heap.size ≤ i) w41 w43 := hm43.mono fun k _ e => .inr (by have := hfx k e; omega)
      exact hmr.trans' ((hm2'.mono fun k _ e => .inl e).trans ((Mod.of_same m41).trans y3))
end Go.Proofs.YtlkpadfkmdgjcaaGreatDoor
end
section
set_option linter.unusedSimpArgs false
set_option linter.unusedVariables false
namespace Go.Proofs.YtlkpadfkmdgjcaaGreatDoor
open Go Go.Ev
set_option linter.unusedVariables false
set_option linter.unusedSimpArgs false
set_option maxRecDepth 100000
attribute [local irreducible] kO kB kStr kInt kN kG kIf kfld kld kldN kst knew kmap kbld kbldS kext kcnv klenStr klen kcap kprt kprtN kbool kint kstr keq kun ksl kix kiv kta kmk kmm ksem ksemU kextf kcallV kcallM kcall kL

theorem insert_twice {pr : Nat → Prop} {Sa : Nat → Addr} {o : Lab} {w : World} (hL : LaidP pr Sa w) (h9 : pr 9) {b : Nat} {p : Ptrs} {S : SM} (h : StoreP o w b p S) {t : Nat} (hG : GS S t) {i : Nat} {g : Int} (hg : S.gens[i]? = some (g, true)) {q : Part} (hq : FitsP S.cs q) {y : Part} (hy : y ∈ partsOf S i) (hyq : y.comp = q.comp) :
    Meets Tryz.prog 18 #[ptrV b, entV i g, .agg q.cells.toArray] w fun v w' => ErrX Sa 9 w.heap.size v w' ∧ Same w w' := by
  obtain ⟨n, r, hsp, hn, hnm, hcol, hpe, hce, hmap, hfit, hmk, hmlt, hpc⟩ := parts_ok h hG hg
  obtain ⟨c, hqc, hcl, hqcl⟩ := id hq
  have hcm : c ∈ compsM S.masks n := by
    rw [hpe] at hy
    obtain ⟨d, hd, rfl⟩ := List.mem_map.1 hy
    have := hpc d hd
    have : d = c := by omega
    subst this; exact hd
  rw [ptrV]
  refine f18_ok ?_
  unfold f18
  refine knew_of fun w2 hm2 hs2 hb2 => ?_
  have hb2 : blk w2 w.heap.size = some (.cells #[.int .i64 i, .int .i64 g] 37) := hb2
  refine knew_of fun w4 hm4 hs4 hb4 => ?_
  have hb4 : blk w4 w2.heap.size = some (.cells q.cells.toArray 49) := hb4
  have he4 := hm4.get hb2 (fun h => h)
  have m4 : Same w w4 := hm2.trans hm4
  have hP4 := h.cut m4
  have hcutn : ∀ k, w.heap.size ≤ k → cutL o w.heap.size k = none := fun k hk => cutL_none hk
  repeat (first | refine kN_at ?_ | refine kB_at ?_ | refine kfld_of ?_ | refine kext_at rfl ?_ | refine kld_at he4 rfl ?_ | refine kldN_at he4 rfl (by omega) ?_ | refine kG_of (by first | exact rfl | omega) ?_ | refine klen_at ?_ | refine eql_at ?_ | refine neq_at ?_ | refine lss_at ?_ | refine leq_at ?_ | refine gtr_at ?_ | refine geq_at ?_ | refine add_at (by omega) (by omega) ?_ | refine sub_at (by omega) (by omega) ?_ | refine not_at ?_ | refine kO_at ?_ | refine kprt_at rfl ?_ | refine kprtN_at rfl ?_ | refine kcap_at ?_ | refine klenStr_at ?_ | refine kN_iat ?_ | refine kN_fat ?_ | refine kIf_T (by first | exact rfl | exact decT (by omega) | exact notT (decF (by omega))) ?_ | refine kIf_F (by first | exact rfl | exact decF (by omega) | exact notF (decT (by omega))) ?_)
  refine kcall_of (sSpot_spec hP4 hg hsp) ?_
  rintro v w7 ⟨rfl, h7⟩
  repeat (first | refine kN_at ?_ | refine kB_at ?_ | refine kfld_of ?_ | refine kext_at rfl ?_ | refine kG_of (by first | exact rfl | omega) ?_ | refine klen_at ?_ | refine eql_at ?_ | refine neq_at ?_ | refine lss_at ?_ | refine leq_at ?_ | refine gtr_at ?_ | refine geq_at ?_ | refine add_at (by omega) (by omega) ?_ | refine sub_at (by omega) (by omega) ?_ | refine not_at ?_ | refine kO_at ?_ | refine kprt_at rfl ?_ | refine kprtN_at rfl ?_ | refine kcap_at ?_ | refine klenStr_at ?_ | refine kN_iat ?_ | refine kN_fat ?_ | refine kIf_T (by first | exact rfl | exact decT (by omega) | exact notT (decF (by omega))) ?_ | refine kIf_F (by first | exact rfl | exact decF (by omega) | exact notF (decT (by omega))) ?_)
  refine knew_of fun w11 h11 hs11 hb11 => ?_
  refine kst_of (vs := [natV n, natV r]) hb11 rfl rfl rfl (by simp) (by simp) fun w12 h12 hs12 hb12 => ?_
  have hb12 : blk w12 w7.heap.size = some (.cells #[.int .i64 n, .int .i64 r] 153) := hb12
  have hsz7 := h7.size
  have m12 : Same w4 w12 := (h7.trans h11).trans' (h12.mono fun k _ e => .inr (by omega))
  rw [keq_nil_nil' ifErr]
  refine kB_at ?_
  refine kIf_F rfl ?_
  have hp12 := m12.get hb4 (fun h => h)
  refine kldN_at (cs := q.cells) hp12 rfl (by omega) ?_
  refine kcall_of (sFits_spec (hP4.same m12) q hq) ?_
  rintro v w17 ⟨rfl, h17⟩
  refine not_at ?_
  refine kB_at ?_
  refine kIf_F rfl ?_
  have m17 : Same w4 w17.drew := (m12.trans h17).trans (Mod.refl (fun _ => False) _).drew
  have hp17 : blk w17.drew w2.heap.size = _ := h17.get hp12 (fun h => h)
  have hb17 : blk w17.drew w7.heap.size = _ := h17.get hb12 (fun h => h)
  have he17 := m17.get he4 (fun h => h)
  have hsz17 : w12.heap.size ≤ w17.drew.heap.size := h17.size
  generalize w17.drew = wa at *
  have hPa := hP4.same m17
  have hba := hPa.here
  obtain ⟨ta, tc, et, hts⟩ := hPa.ptab hn
  rw [et] at hba
  have hT := hPa.tab n hn
  obtain ⟨q1, rv, bm, q2, q3, q4, q5, q6, q7⟩ := id hT
  repeat (first | refine kN_at ?_ | refine kB_at ?_ | refine kfld_of ?_ | refine kext_at rfl ?_ | refine kld_at hba rfl ?_ | refine kld_at hb17 rfl ?_ | refine kldN_at hba rfl (by omega) ?_ | refine kldN_at hb17 rfl (by omega) ?_ | refine kG_of (by first | exact rfl | omega) ?_ | refine klen_at ?_ | refine eql_at ?_ | refine neq_at ?_ | refine lss_at ?_ | refine leq_at ?_ | refine gtr_at ?_ | refine geq_at ?_ | refine add_at (by omega) (by omega) ?_ | refine sub_at (by omega) (by omega) ?_ | refine not_at ?_ | refine kO_at ?_ | refine kprt_at rfl ?_ | refine kprtN_at rfl ?_ | refine kcap_at ?_ | refine klenStr_at ?_ | refine kN_iat ?_ | refine kN_fat ?_ | refine kIf_T (by first | exact rfl | exact decT (by omega) | exact notT (decF (by omega))) ?_ | refine kIf_F (by first | exact rfl | exact decF (by omega) | exact notF (decT (by omega))) ?_)
  have ele : (List.range S.tabs.length).length = S.tabs.length := List.length_range
  refine kixld_of (F := fun i => ptrV (p.pt i)) (c := tc) (l := List.range S.tabs.length) hts (show n < (List.range S.tabs.length).length by omega) rfl ?_ |> fun h => by rw [ele] at h; exact h
  rw [List.getElem_range, ptrV]
  refine kG_of rfl ?_
  repeat (first | refine kN_at ?_ | refine kB_at ?_ | refine kfld_of ?_ | refine kext_at rfl ?_ | refine kld_at q2 rfl ?_ | refine kldN_at q2 rfl (by omega) ?_ | refine kG_of (by first | exact rfl | omega) ?_ | refine klen_at ?_ | refine eql_at ?_ | refine neq_at ?_ | refine lss_at ?_ | refine leq_at ?_ | refine gtr_at ?_ | refine geq_at ?_ | refine add_at (by omega) (by omega) ?_ | refine sub_at (by omega) (by omega) ?_ | refine not_at ?_ | refine kO_at ?_ | refine kprt_at rfl ?_ | refine kprtN_at rfl ?_ | refine kcap_at ?_ | refine klenStr_at ?_ | refine kN_iat ?_ | refine kN_fat ?_ | refine kIf_T (by first | exact rfl | exact decT (by omega) | exact notT (decF (by omega))) ?_ | refine kIf_F (by first | exact rfl | exact decF (by omega) | exact notF (decT (by omega))) ?_)
  refine kld_of (v := .int .i64 c) hp17 (by simp [Part.cells, hqc]) ?_
  refine kG_of rfl ?_
  refine klook_of Tryz.underlying147 Tryz.underlying3 zCol q6 (r := some (_, _)) (by rw [lk_comps, if_pos hcm]) ?_
  refine kG_of rfl ?_
  simp -dsimp only [ptrV]
  rw [keq_ptr_nil' ptCol]
  refine kG_of rfl ?_
  refine kB_at ?_
  refine kIf_T rfl ?_
  have mz : Same w wa := m4.trans m17
  have hLz := hL.same mz
  refine kld_err hLz (k := 9) h9 rfl rfl ?_
  refine kcall_of (sWrong_spec (ErrX.sent Sa 9 wa.heap.size wa) (Nat.le_refl _)) ?_
  rintro v w26 ⟨hx, h26⟩
  exact ⟨hx.mono mz.size, mz.trans h26⟩
end Go.Proofs.YtlkpadfkmdgjcaaGreatDoor
end
section
set_option linter.unusedSimpArgs false
set_option linter.unusedVariables false
namespace Go.Proofs.YtlkpadfkmdgjcaaGreatDoor
open Go Go.Ev
set_option linter.unusedVariables false
set_option linter.unusedSimpArgs false
set_option maxRecDepth 100000
attribute [local irreducible] kO kB kStr kInt kN kG kIf kfld kld kldN kst knew kmap kbld kbldS kext kcnv klenStr klen kcap kprt kprtN kbool kint kstr keq kun ksl kix kiv kta kmk kmm ksem ksemU kextf kcallV kcallM kcall kL

theorem sRemove_err {Sa : Nat → Addr} {k : Nat} {w : World} {b : Nat} {idx gen c : Int}
    (h : ∀ w2, Same w w2 → Meets Tryz.prog 98 #[ptrV b, entV idx gen, .int .i64 c] w2 fun v w' => ∃ x, v = .tuple #[.pointer none, .int .i64 0, x] ∧ ErrX Sa k w2.heap.size x w' ∧ Same w2 w') :
    Meets Tryz.prog 24 #[ptrV b, entV idx gen, .int .i64 c] w fun v w' => ∃ x, v = .tuple #[zPartV, x] ∧ ErrX Sa k w.heap.size x w' ∧ Same w w' := by
  refine f24_ok ?_
  unfold f24
  refine knew_of fun w2 hm2 hs2 hb2 => ?_
  have hb2 : blk w2 w.heap.size = some (.cells #[.int .i64 idx, .int .i64 gen] 37) := hb2
  refine knew_of fun w4 hm4 hs4 hb4 => ?_
  have hb4 : blk w4 w2.heap.size = some (.cells #[.int .i64 c] 3) := hb4
  refine knew_of fun w6 hm6 hs6 hb6 => ?_
  have he6 := hm6.get (hm4.get hb2 (fun h => h)) (fun h => h)
  have hc6 := hm6.get hb4 (fun h => h)
  have m6 : Same w w6 := (hm2.trans hm4).trans hm6
  repeat (first | refine kN_at ?_ | refine kB_at ?_ | refine kfld_of ?_ | refine kext_at rfl ?_ | refine kld_at he6 rfl ?_ | refine kld_at hc6 rfl ?_ | refine kldN_at he6 rfl (by omega) ?_ | refine kldN_at hc6 rfl (by omega) ?_ | refine kG_of (by first | exact rfl | omega) ?_ | refine klen_at ?_ | refine eql_at ?_ | refine neq_at ?_ | refine lss_at ?_ | refine leq_at ?_ | refine gtr_at ?_ | refine geq_at ?_ | refine add_at (by omega) (by omega) ?_ | refine sub_at (by omega) (by omega) ?_ | refine not_at ?_ | refine kO_at ?_ | refine kprt_at rfl ?_ | refine kprtN_at rfl ?_ | refine kcap_at ?_ | refine klenStr_at ?_ | refine kN_iat ?_ | refine kN_fat ?_ | refine kIf_T (by first | exact rfl | exact decT (by omega) | exact notT (decF (by omega))) ?_ | refine kIf_F (by first | exact rfl | exact decF (by omega) | exact notF (decT (by omega))) ?_)
  refine kcall_of (sGet_err (Sa := Sa) (k := k) fun w2' m2' => h w2' (m6.trans m2')) ?_
  rintro v w10 ⟨x, rfl, hx, h10⟩
  have hz10 := h10.get hb6 (fun h => h)
  have hsz10 := h10.size
  obtain ⟨t, y, rfl⟩ := hx.if
  rw [zPartV]
  repeat (first | refine kN_at ?_ | refine kB_at ?_ | refine kfld_of ?_ | refine kext_at rfl ?_ | refine kG_of (by first | exact rfl | omega) ?_ | refine klen_at ?_ | refine eql_at ?_ | refine neq_at ?_ | refine lss_at ?_ | refine leq_at ?_ | refine gtr_at ?_ | refine geq_at ?_ | refine add_at (by omega) (by omega) ?_ | refine sub_at (by omega) (by omega) ?_ | refine not_at ?_ | refine kO_at ?_ | refine kprt_at rfl ?_ | refine kprtN_at rfl ?_ | refine kcap_at ?_ | refine klenStr_at ?_ | refine kN_iat ?_ | refine kN_fat ?_ | refine kIf_T (by first | exact rfl | exact decT (by omega) | exact notT (decF (by omega))) ?_ | refine kIf_F (by first | exact rfl | exact decF (by omega) | exact notF (decT (by omega))) ?_)
  refine knew_of fun w14 h14 hs14 hb14 => ?_
  refine kst_of (vs := [.int .i64 0, .int .i64 0, .int .i64 0, .int .i64 0, .int .i64 0, .int .i64 0]) hb14 rfl rfl rfl (by simp) (by simp) fun w15 h15 hs15 hb15 => ?_
  have m15 : Same w10 w15 := h14.trans' (h15.mono fun k _ e => .inr (by omega))
  have hz15 := m15.get hz10 (fun h => h)
  rw [keq_if_nil' ifErr]
  refine kB_at ?_
  refine kIf_T rfl ?_
  refine kbld_of (cs := [.int .i64 0, .int .i64 0, .int .i64 0, .int .i64 0, .int .i64 0, .int .i64 0]) rfl ?_
  refine kst_of (vs := [.int .i64 0, .int .i64 0, .int .i64 0, .int .i64 0, .int .i64 0, .int .i64 0]) hz15 rfl rfl rfl (by simp) (by simp) fun w19 h19 hs19 hb19 => ?_
  have hb19 : blk w19 w4.heap.size = some (.cells #[.int .i64 0, .int .i64 0, .int .i64 0, .int .i64 0, .int .i64 0, .int .i64 0] 49) := hb19
  repeat (first | refine kN_at ?_ | refine kB_at ?_ | refine kfld_of ?_ | refine kext_at rfl ?_ | refine kld_at hb19 rfl ?_ | refine kldN_at hb19 rfl (by omega) ?_ | refine kG_of (by first | exact rfl | omega) ?_ | refine klen_at ?_ | refine eql_at ?_ | refine neq_at ?_ | refine lss_at ?_ | refine leq_at ?_ | refine gtr_at ?_ | refine geq_at ?_ | refine add_at (by omega) (by omega) ?_ | refine sub_at (by omega) (by omega) ?_ | refine not_at ?_ | refine kO_at ?_ | refine kprt_at rfl ?_ | refine kprtN_at rfl ?_ | refine kcap_at ?_ | refine klenStr_at ?_ | refine kN_iat ?_ | refine kN_fat ?_ | refine kIf_T (by first | exact rfl | exact decT (by omega) | exact notT (decF (by omega))) ?_ | refine kIf_F (by first | exact rfl | exact decF (by omega) | exact notF (decT (by omega))) ?_)
  refine ⟨_, rfl, ((hx.same m15).mod h19 fun k h1 h2 e => by omega).mono (by omega), ((m6.trans h10).trans m15).trans' (h19.mono fun k _ e => .inr (by omega))⟩
end Go.Proofs.YtlkpadfkmdgjcaaGreatDoor
end
section
set_option linter.unusedSimpArgs false
set_option linter.unusedVariables false
namespace Go.Proofs.YtlkpadfkmdgjcaaGreatDoor
open Go Go.Ev
set_option linter.unusedVariables false
set_option linter.unusedSimpArgs false
set_option maxRecDepth 100000
attribute [local irreducible] kO kB kStr kInt kN kG kIf kfld kld kldN kst knew kmap kbld kbldS kext kcnv klenStr klen kcap kprt kprtN kbool kint kstr keq kun ksl kix kiv kta kmk kmm ksem ksemU kextf kcallV kcallM kcall kL

theorem keq_partN {p q : Part} (hp : p.ok) (hq : q.ok) {w : World} {K : Value → World → Prop} {cx cy : Bool} :
    keq Tryz.prog .neq 49 cx cy (.agg p.cells.toArray) (.agg q.cells.toArray) w K = K (.bool (!decide (p = q))) w := by
  obtain ⟨r, hr, hiff⟩ := run_equalIn_deep (P := Tryz.prog) 9990 10 49 keyPart w 3 3 (.agg p.cells.toArray) (.agg q.cells.toArray) _ _ (formPart p) (formPart q) (kl_part hp 0) (kl_part hq 0)
  have hr2 : r = decide (p = q) := by
    rw [Bool.eq_iff_iff, hiff, decide_eq_true_eq]
    cases p; cases q
    simp
  rw [hr2] at hr
  simp only [keq, eqW, semV, Sem.run_bind, run_eqGuard_agg w .neq 49 _ _ p.cells.toArray q.cells.toArray guardPart, Result.andThen_ok, run_neq_struct]
  rw [show (10000 : Nat) = 9990 + 10 from rfl, hr]
  rfl

theorem same_spec {w : World} {L : List Part} (hok : ∀ q ∈ L, q.ok) (hlen : L.length ≤ 1000000) {a1 a2 : Option Addr} {c1 c2 : Nat} (h1 : SlIs w a1 L.length 6 (L.flatMap Part.cells)) (h2 : SlIs w a2 L.length 6 (L.flatMap Part.cells)) :
    Meets Tryz.prog 25 #[.slice a1 L.length c1, .slice a2 L.length c2] w fun v w' => v = .bool true ∧ Same w w' := by
  refine f25_ok ?_
  unfold f25
  refine klen_at ?_
  refine klen_at ?_
  refine neq_at ?_
  rw [decF (by simp)]
  refine kB_at ?_
  refine kIf_F rfl ?_
  unfold f25_0
  refine kL1_of L.length (fun j x wr => x = .int .i64 j ∧ Same w wr) ⟨lI1_0 ⟨rfl, Mod.refl _ _⟩, fun x wr hx => ?_⟩
  obtain ⟨j, hj, ⟨rfl, hm⟩, hJ⟩ := lI1_step hx
  unfold f25_1
  refine klen_at ?_
  refine lss_at ?_
  refine kB_at ?_
  refine kIf_dec (fun hlt => ?_) (fun hge => ?_)
  · have hlt : j < L.length := by omega
    have hq := hok _ (List.getElem_mem hlt)
    have md : Same wr wr.drew := (Mod.refl (fun _ => False) _).drew
    unfold f25_2
    refine kixldN_of (F := Part.cells) (sz := 6) (fun _ => rfl) (by omega) (h1.same hm) hlt rfl ?_
    refine kG_of rfl ?_
    refine kixldN_of (F := Part.cells) (sz := 6) (fun _ => rfl) (by omega) (h2.same hm) hlt rfl ?_
    refine kG_of rfl ?_
    rw [keq_partN hq hq]
    refine kG_of rfl ?_
    refine kB_at ?_
    refine kIf_F (by simp) ?_
    unfold f25_3
    repeat (first | refine kN_at ?_ | refine kB_at ?_ | refine kfld_of ?_ | refine kext_at rfl ?_ | refine kG_of (by first | exact rfl | omega) ?_ | refine klen_at ?_ | refine eql_at ?_ | refine neq_at ?_ | refine lss_at ?_ | refine leq_at ?_ | refine gtr_at ?_ | refine geq_at ?_ | refine add_at (by omega) (by omega) ?_ | refine sub_at (by omega) (by omega) ?_ | refine not_at ?_ | refine kO_at ?_ | refine kprt_at rfl ?_ | refine kprtN_at rfl ?_ | refine kcap_at ?_ | refine klenStr_at ?_ | refine kN_iat ?_ | refine kN_fat ?_ | refine kIf_T (by first | exact rfl | exact decT (by omega) | exact notT (decF (by omega))) ?_ | refine kIf_F (by first | exact rfl | exact decF (by omega) | exact notF (decT (by omega))) ?_)
    rw [cast_succ]
    exact hJ _ _ hlt ⟨rfl, hm.trans md⟩
  · exact ⟨rfl, hm⟩
end Go.Proofs.YtlkpadfkmdgjcaaGreatDoor
end
section
set_option linter.unusedSimpArgs false
set_option linter.unusedVariables false
namespace Go.Proofs.YtlkpadfkmdgjcaaGreatDoor
open Go Go.Ev
set_option linter.unusedVariables false
set_option linter.unusedSimpArgs false
set_option maxRecDepth 100000
attribute [local irreducible] kO kB kStr kInt kN kG kIf kfld kld kldN kst knew kmap kbld kbldS kext kcnv klenStr klen kcap kprt kprtN kbool kint kstr keq kun ksl kix kiv kta kmk kmm ksem ksemU kextf kcallV kcallM kcall kL

/-- What 'spot' tells when it tells an error. -/
def SpotErr (Sa : Nat → Addr) (k : Nat) (r : Value) (idx gen : Int) (w : World) : Prop :=
  ∀ w2, Same w w2 → Meets Tryz.prog 81 #[r, entV idx gen] w2 fun v w' => ∃ x, v = .tuple #[.agg #[.int .i64 0, .int .i64 0], x] ∧ ErrX Sa k w2.heap.size x w' ∧ Same w2 w'
theorem sDespawn_err {Sa : Nat → Addr} {k : Nat} {w : World} {r : Value} {idx gen : Int} (h : SpotErr Sa k r idx gen w) :
    Meets Tryz.prog 27 #[r, entV idx gen] w fun v w' => ∃ x, v = .tuple #[.slice none 0 0, x] ∧ ErrX Sa k w.heap.size x w' ∧ Same w w' := by
  refine f27_ok ?_
  unfold f27
  refine knew_of fun w2 hm2 hs2 hb2 => ?_
  have hb2 : blk w2 w.heap.size = some (.cells #[.int .i64 idx, .int .i64 gen] 37) := hb2
  repeat (first | refine kN_at ?_ | refine kB_at ?_ | refine kfld_of ?_ | refine kext_at rfl ?_ | refine kld_at hb2 rfl ?_ | refine kldN_at hb2 rfl (by omega) ?_ | refine kG_of (by first | exact rfl | omega) ?_ | refine klen_at ?_ | refine eql_at ?_ | refine neq_at ?_ | refine lss_at ?_ | refine leq_at ?_ | refine gtr_at ?_ | refine geq_at ?_ | refine add_at (by omega) (by omega) ?_ | refine sub_at (by omega) (by omega) ?_ | refine not_at ?_ | refine kO_at ?_ | refine kprt_at rfl ?_ | refine kprtN_at rfl ?_ | refine kcap_at ?_ | refine klenStr_at ?_ | refine kN_iat ?_ | refine kN_fat ?_ | refine kIf_T (by first | exact rfl | exact decT (by omega) | exact notT (decF (by omega))) ?_ | refine kIf_F (by first | exact rfl | exact decF (by omega) | exact notF (decT (by omega))) ?_)
  refine kcall_of (h w2 hm2) ?_
  rintro v w5 ⟨x, rfl, hx, h5⟩
  repeat (first | refine kN_at ?_ | refine kB_at ?_ | refine kfld_of ?_ | refine kext_at rfl ?_ | refine kG_of (by first | exact rfl | omega) ?_ | refine klen_at ?_ | refine eql_at ?_ | refine neq_at ?_ | refine lss_at ?_ | refine leq_at ?_ | refine gtr_at ?_ | refine geq_at ?_ | refine add_at (by omega) (by omega) ?_ | refine sub_at (by omega) (by omega) ?_ | refine not_at ?_ | refine kO_at ?_ | refine kprt_at rfl ?_ | refine kprtN_at rfl ?_ | refine kcap_at ?_ | refine klenStr_at ?_ | refine kN_iat ?_ | refine kN_fat ?_ | refine kIf_T (by first | exact rfl | exact decT (by omega) | exact notT (decF (by omega))) ?_ | refine kIf_F (by first | exact rfl | exact decF (by omega) | exact notF (decT (by omega))) ?_)
  refine knew_of fun w9 h9 hs9 hb9 => ?_
  refine kst_of (vs := [.int .i64 0, .int .i64 0]) hb9 rfl rfl rfl (by simp) (by simp) fun w10 h10 hs10 hb10 => ?_
  have m10 : Same w5 w10 := h9.trans' (h10.mono fun k _ e => .inr (by omega))
  have hx10 := hx.same m10
  obtain ⟨t, y, rfl⟩ := hx.if
  rw [keq_if_nil' ifErr]
  refine kB_at ?_
  refine kIf_T rfl ?_
  exact ⟨_, rfl, hx10.mono (by omega), (hm2.trans h5).trans m10⟩
end Go.Proofs.YtlkpadfkmdgjcaaGreatDoor
end
section
set_option linter.unusedSimpArgs false
set_option linter.unusedVariables false
namespace Go.Proofs.YtlkpadfkmdgjcaaGreatDoor
open Go Go.Ev
set_option linter.unusedVariables false
set_option linter.unusedSimpArgs false
set_option maxRecDepth 100000
attribute [local irreducible] kO kB kStr kInt kN kG kIf kfld kld kldN kst knew kmap kbld kbldS kext kcnv klenStr klen kcap kprt kprtN kbool kint kstr keq kun ksl kix kiv kta kmk kmm ksem ksemU kextf kcallV kcallM kcall kL

/-! ### Put, of a column -/
theorem cPut_spec {o : Lab} {w : World} {b i c wd : Nat} {rows : List Part} (h : ColAt o w b i c wd rows) {n : Nat} (hn : n < rows.length) (q : Part) (hq : q.comp = c ∧ q.clean wd) :
    Meets Tryz.prog 101 #[.pointer (some ⟨b, 0, none⟩), .int .i64 n, .agg q.cells.toArray] w fun v w' =>
      v = .tuple #[.agg rows[n].cells.toArray, .nilIface] ∧ ColAt o w' b i c wd (rows.set n q) ∧ Mod (FP o (colW i c)) w w' := by
  obtain ⟨bc, cp, bt, ct, arr, arrt, tc, tt, hv, hbcl, hbtl, hO1, hO2⟩ := h.view (by omega)
  obtain ⟨hlab, hwd1, hwd4, hc16, hlen, hrows, _⟩ := id h
  have hnw : (n + 1) * wd ≤ rows.length * wd := Nat.mul_le_mul_right _ hn
  rw [Nat.add_mul, Nat.one_mul] at hnw
  have hcsz := hv.csz
  have htsz := hv.tsz
  have nbc : bc ≠ b := fun e => by rw [e, hlab] at hbcl; cases hbcl
  have nbt : bt ≠ b := fun e => by rw [e, hlab] at hbtl; cases hbtl
  have nct : bc ≠ bt := fun e => by rw [e, hbtl] at hbcl; cases hbcl
  have lb := lt_of_blk hv.col
  have lbc := lt_of_blk hv.cells
  have lbt := lt_of_blk hv.ticks
  refine f101_ok ?_
  unfold f101
  refine knew_of fun w1 h1 hs1 hb1 => ?_
  have hb1 : blk w1 w.heap.size = some (.cells q.cells.toArray 49) := hb1
  refine knew_of fun w2 h2 hs2 hb2 => ?_
  have m2 : Same w w2 := h1.trans h2
  have hq2 := h2.get hb1 (fun h => h)
  refine kcall_of (crow_spec (h.same m2) hn (hv.same m2)) ?_
  rintro v w4 ⟨rfl, h4⟩
  have m4 := m2.trans h4
  have hb4 := h4.get hb2 (fun h => h)
  have hq4 := h4.get hq2 (fun h => h)
  repeat (first | refine kN_at ?_ | refine kB_at ?_ | refine kfld_of ?_ | refine kext_at rfl ?_ | refine kG_of (by first | exact rfl | omega) ?_ | refine klen_at ?_ | refine eql_at ?_ | refine neq_at ?_ | refine lss_at ?_ | refine leq_at ?_ | refine gtr_at ?_ | refine geq_at ?_ | refine add_at (by omega) (by omega) ?_ | refine sub_at (by omega) (by omega) ?_ | refine not_at ?_ | refine kO_at ?_ | refine kprt_at rfl ?_ | refine kprtN_at rfl ?_ | refine kcap_at ?_ | refine klenStr_at ?_ | refine kN_iat ?_ | refine kN_fat ?_ | refine kIf_T (by first | exact rfl | exact decT (by omega) | exact notT (decF (by omega))) ?_ | refine kIf_F (by first | exact rfl | exact decF (by omega) | exact notF (decT (by omega))) ?_)
  rw [keq_nil_nil' ifErr]
  refine kB_at ?_
  refine kIf_F rfl ?_
  refine kldN_at (cs := q.cells) hq4 rfl (by omega) ?_
  refine kcall_of (cfits_spec (h.same m4) q hq) ?_
  rintro v w16 ⟨rfl, h16⟩
  have m16 := m4.trans h16
  have hb16 := h16.get hb4 (fun h => h)
  have hq16 := h16.get hq4 (fun h => h)
  refine not_at ?_
  refine kB_at ?_
  refine kIf_F rfl ?_
  unfold f101_0
  refine kcall_of (cpart_spec (h.same m16) hn (hv.same m16) _) ?_
  rintro v w24 ⟨rfl, h24⟩
  have m24 := m16.trans h24
  have hb24 := h24.get hb16 (fun h => h)
  have hq24 := h24.get hq16 (fun h => h)
  refine knew_of fun w26 h26 hs26 hb26 => ?_
  have m26 := m24.trans h26
  have hb26b := h26.get hb24 (fun h => h)
  have hq26 := h26.get hq24 (fun h => h)
  have hs24 : w.heap.size + 2 ≤ w24.heap.size := by have := h4.size; have := h16.size; have := h24.size; omega
  refine kst_of (vs := rows[n].cells) hb26 rfl rfl rfl (by simp) (by simp [Part.cells]) fun w27 h27 hs27 hb27 => ?_
  have hb27 : blk w27 w24.heap.size = some (.cells rows[n].cells.toArray 49) := hb27
  have m27 : Same w w27 := m26.trans' (h27.mono fun k _ e => .inr (by omega))
  have hv27 := hv.same m27
  have hq27 := h27.get hq26 (by omega)
  have hz27 := h27.get hb26b (by omega)
  refine kfld_of ?_
  refine ksl_arr_all ?_
  have hsl : SlIs w27 (some ⟨w.heap.size, 0 + 1, none⟩) 4 1 [nV q.v0, nV q.v1, nV q.v2, nV q.v3] := ⟨rfl, .inr ⟨_, _, _, _, _, rfl, hq27, rfl⟩⟩
  refine ksem_copy sl1I hv27.cells hsl (ones_nV [q.v0, q.v1, q.v2, q.v3]) (by rw [show min 4 wd = wd by omega]; omega) fun w29 h29 hs29 hb29 => ?_
  rw [show min 4 wd = wd by omega, show ([nV q.v0, nV q.v1, nV q.v2, nV q.v3] : List Value).take wd = cellsF wd q by unfold cellsF; rw [List.map_take]; rfl] at hb29
  have hcol29 : blk w29.drew b = _ := h29.get hv27.col (fun e => nbc e.symm)
  have htk29 : blk w29.drew bt = _ := h29.get hv27.ticks (fun e => nct e.symm)
  have hb29 : blk w29.drew bc = _ := hb29
  have hp29 : blk w29.drew w24.heap.size = _ := h29.get hb27 (by omega)
  have hz29 : blk w29.drew (w.heap.size + 1) = _ := h29.get (hs1 ▸ hz27) (by omega)
  have hq29 : blk w29.drew w.heap.size = _ := h29.get hq27 (by omega)
  have h29 : Mod (fun k => k = bc) w27 w29.drew := h29.drew
  generalize w29.drew = wa at *
  repeat (first | refine kN_at ?_ | refine kB_at ?_ | refine kfld_of ?_ | refine kext_at rfl ?_ | refine kld_at hcol29 rfl ?_ | refine kldN_at hcol29 rfl (by omega) ?_ | refine kG_of (by first | exact rfl | omega) ?_ | refine klen_at ?_ | refine eql_at ?_ | refine neq_at ?_ | refine lss_at ?_ | refine leq_at ?_ | refine gtr_at ?_ | refine geq_at ?_ | refine add_at (by omega) (by omega) ?_ | refine sub_at (by omega) (by omega) ?_ | refine not_at ?_ | refine kO_at ?_ | refine kprt_at rfl ?_ | refine kprtN_at rfl ?_ | refine kcap_at ?_ | refine klenStr_at ?_ | refine kN_iat ?_ | refine kN_fat ?_ | refine kIf_T (by first | exact rfl | exact decT (by omega) | exact notT (decF (by omega))) ?_ | refine kIf_F (by first | exact rfl | exact decF (by omega) | exact notF (decT (by omega))) ?_)
  refine kld_of (v := nV q.tick) hq29 rfl ?_
  refine kG_of rfl ?_
  rw [kix_slice]
  refine kG_of (by omega) ?_
  rw [add_mk]
  refine kst_of (vs := [nV q.tick]) htk29 rfl rfl rfl (by simp; omega) (by simp) fun w33 h33 hs33 hb33 => ?_
  have hp33 := h33.get hp29 (by omega)
  repeat (first | refine kN_at ?_ | refine kB_at ?_ | refine kfld_of ?_ | refine kext_at rfl ?_ | refine kld_at hp33 rfl ?_ | refine kldN_at hp33 rfl (by omega) ?_ | refine kG_of (by first | exact rfl | omega) ?_ | refine klen_at ?_ | refine eql_at ?_ | refine neq_at ?_ | refine lss_at ?_ | refine leq_at ?_ | refine gtr_at ?_ | refine geq_at ?_ | refine add_at (by omega) (by omega) ?_ | refine sub_at (by omega) (by omega) ?_ | refine not_at ?_ | refine kO_at ?_ | refine kprt_at rfl ?_ | refine kprtN_at rfl ?_ | refine kcap_at ?_ | refine klenStr_at ?_ | refine kN_iat ?_ | refine kN_fat ?_ | refine kIf_T (by first | exact rfl | exact decT (by omega) | exact notT (decF (by omega))) ?_ | refine kIf_F (by first | exact rfl | exact decF (by omega) | exact notF (decT (by omega))) ?_)
  have hb33b := h33.get hz29 (by omega)
  rw [hs1]
  refine kst_of (vs := rows[n].cells) hb33b rfl rfl rfl (by simp) (by simp [Part.cells]) fun w35 h35 hs35 hb35 => ?_
  have hb35 : blk w35 (w.heap.size + 1) = some (.cells rows[n].cells.toArray 49) := hb35
  repeat (first | refine kN_at ?_ | refine kB_at ?_ | refine kfld_of ?_ | refine kext_at rfl ?_ | refine kld_at hb35 rfl ?_ | refine kldN_at hb35 rfl (by omega) ?_ | refine kG_of (by first | exact rfl | omega) ?_ | refine klen_at ?_ | refine eql_at ?_ | refine neq_at ?_ | refine lss_at ?_ | refine leq_at ?_ | refine gtr_at ?_ | refine geq_at ?_ | refine add_at (by omega) (by omega) ?_ | refine sub_at (by omega) (by omega) ?_ | refine not_at ?_ | refine kO_at ?_ | refine kprt_at rfl ?_ | refine kprtN_at rfl ?_ | refine kcap_at ?_ | refine klenStr_at ?_ | refine kN_iat ?_ | refine kN_fat ?_ | refine kIf_T (by first | exact rfl | exact decT (by omega) | exact notT (decF (by omega))) ?_ | refine kIf_F (by first | exact rfl | exact decF (by omega) | exact notF (decT (by omega))) ?_)
  have hm : Mod (fun k => k = bc ∨ k = bt) w w35 := by
    have a1 : Mod (fun k => k = bc ∨ k = bt) w w33 := (Mod.of_same m27).trans ((h29.mono fun k _ e => .inl e).trans (h33.mono fun k _ e => .inr e))
    exact a1.trans' (h35.mono fun k _ e => .inr (by omega))
  refine ⟨rfl, ?_, hm.mono fun k _ e => ?_⟩
  · refine ColAt.write h hn hv q hq hbcl hbtl hO1 hO2 ?_ ?_ ?_
    · exact hm.kept b lb (by rintro (e | e); exact nbc e.symm; exact nbt e.symm)
    · exact h35.get (h33.get hb29 nct) (by omega)
    · have e1 := h35.get hb33 (by omega)
      rw [e1]
      simp [tickV]
  · rcases e with rfl | rfl
    · exact ⟨_, hbcl, .inl rfl⟩
    · exact ⟨_, hbtl, .inr rfl⟩
end Go.Proofs.YtlkpadfkmdgjcaaGreatDoor
end
section
set_option linter.unusedSimpArgs false
set_option linter.unusedVariables false
namespace Go.Proofs.YtlkpadfkmdgjcaaGreatDoor
open Go Go.Ev
set_option linter.unusedVariables false
set_option linter.unusedSimpArgs false
set_option maxRecDepth 100000

/-! ### An entity goes -/
def goneS (S : SM) (i : Nat) (g : Int) : SM := { S with gens := S.gens.set i (g, false), free := S.free ++ [i] }
theorem WFe.gone {S : SM} {i : Nat} (h : WFe S (· = i)) {g : Int} (hg : S.gens[i]? = some (g, true)) : WF (goneS S i g) ∧ ∀ j, partsOf (goneS S i g) j = partsOf S j := by
  have hil := (List.getElem?_eq_some_iff.1 hg).1
  have hne : ∀ j, j ≠ i → (S.gens.set i (g, false))[j]? = S.gens[j]? := fun j hj => by rw [List.getElem?_set_ne (fun e => hj e.symm)]
  refine ⟨⟨by show (S.gens.set i _).length = _; rw [List.length_set]; exact h.gs, fun j gj hgj _ => ?_, fun n T r e hT hr => ?_, h.cols⟩, fun j => rfl⟩
  · have hgj : (S.gens.set i (g, false))[j]? = some (gj, true) := hgj
    by_cases hj : j = i
    · subst hj
      rw [List.getElem?_set, if_pos rfl, if_pos hil] at hgj
      cases hgj
    · rw [hne j hj] at hgj
      exact h.live j gj hgj hj
  · obtain ⟨j, e1, e2, e3, e4⟩ := h.rows n T r e hT hr
    exact ⟨j, e1, fun h => h, by show (S.gens.set i (g, false))[j]? = _; rw [hne j e2]; exact e3, e4⟩
theorem FreeOk.gone {S : SM} (h : FreeOk S) {i : Nat} {g : Int} (hg : S.gens[i]? = some (g, true)) : FreeOk (goneS S i g) := by
  have hil := (List.getElem?_eq_some_iff.1 hg).1
  have hni : i ∉ S.free := fun hm => by
    obtain ⟨g', e⟩ := (h.2 i).1 hm
    rw [hg] at e; cases e
  refine ⟨List.nodup_append.2 ⟨h.1, by simp, fun a ha b hb e => by simp at hb; subst hb; subst e; exact hni ha⟩, fun j => ?_⟩
  show j ∈ S.free ++ [i] ↔ ∃ g', (S.gens.set i (g, false))[j]? = some (g', false)
  by_cases hj : j = i
  · subst hj
    rw [List.getElem?_set, if_pos rfl, if_pos hil]
    exact ⟨fun _ => ⟨g, rfl⟩, fun _ => by simp⟩
  · rw [List.getElem?_set_ne (fun e => hj e.symm), ← h.2 j]
    simp [hj]
end Go.Proofs.YtlkpadfkmdgjcaaGreatDoor
end
section
set_option linter.unusedSimpArgs false
set_option linter.unusedVariables false
namespace Go.Proofs.YtlkpadfkmdgjcaaGreatDoor
open Go Go.Ev
set_option linter.unusedVariables false
set_option linter.unusedSimpArgs false
set_option maxRecDepth 100000
attribute [local irreducible] kO kB kStr kInt kN kG kIf kfld kld kldN kst knew kmap kbld kbldS kext kcnv klenStr klen kcap kprt kprtN kbool kint kstr keq kun ksl kix kiv kta kmk kmm ksem ksemU kextf kcallV kcallM kcall kL

/-- As Turned, and the blocks of X are none of the store's. -/
def TurnedX (X : Nat → Prop) (o : Lab) (w : World) (b : Nat) (S' : SM) (w' : World) : Prop := ∃ o' p', LabEq w o o' ∧ StoreP o' w' b p' S' ∧ Mod (FP o fun _ => True) w w' ∧ (∀ k, w'.heap.size ≤ k → o' k = none) ∧ ∀ k, X k → o' k = none
theorem TurnedX.t {X : Nat → Prop} {o : Lab} {w w' : World} {b : Nat} {S' : SM} (h : TurnedX X o w b S' w') : Turned o w b S' w' := by
  obtain ⟨o', p', h1, h2, h3, h4, _⟩ := h
  exact ⟨o', p', h1, h2, h3, h4⟩
theorem TurnedX.wrap {X : Nat → Prop} {o : Lab} {w w4 w5 w6 : World} {b : Nat} {S' : SM} (m : Same w w4) (t : TurnedX X (cutL o w.heap.size) w4 b S' w5) (hz : Mod (fun k => w.heap.size ≤ k ∧ k < w4.heap.size) w5 w6) : TurnedX X o w b S' w6 := by
  obtain ⟨o', p', hl, hP, hm, hc, hx⟩ := t
  have ml := m.size
  have hl' : LabEq w o (cutL o' w6.heap.size) := fun k hk => by
    have := hm.size
    have := hz.size
    have e := hl k (by omega)
    unfold cutL at *
    rw [if_pos (by omega), e, if_pos hk]
  refine ⟨cutL o' w6.heap.size, p', hl', hP.frame hz (fun k t e ⟨e1, e2⟩ => ?_) (fun k hk => ?_), ((Mod.of_same m).trans (hm.mono fun k _ hk => hk.cut.1)).trans' (hz.mono fun k _ hk => .inr hk.1), fun k hk => cutL_none hk, fun k hk => ?_⟩
  · rw [hl k e2] at e
    rw [cutL_none e1] at e; cases e
  · have := hz.size
    unfold cutL
    rw [if_pos (by omega)]
  · unfold cutL
    split
    · exact hx k hk
    · rfl
theorem TurnedX.seq {X : Nat → Prop} {o o1 : Lab} {w w1 w2 w3 : World} {b : Nat} {S' : SM} (hl : LabEq w o o1) (hm : Mod (FP o fun _ => True) w w1) (m : Same w1 w2) (t : TurnedX X o1 w2 b S' w3) : TurnedX X o w b S' w3 := by
  obtain ⟨o', p', hl', hP, hm', hc, hx⟩ := t
  have hm2 := hm.trans (Mod.of_same m)
  exact ⟨o', p', hl.trans hl' hm2.size, hP, Mod.labs hm2 hl hm', hc, hx⟩
theorem despawn_at {o : Lab} {w : World} {b : Nat} {p : Ptrs} {S : SM} (h : StoreP o w b p S) {t : Nat} (hG : GS S t) {i : Nat} {g : Int} (hg : S.gens[i]? = some (g, true)) (hfl : S.free.length < S.gens.length) :
    Meets Tryz.prog 27 #[ptrV b, entV i g] w fun v w' => ∃ sv, v = .tuple #[sv, .nilIface] ∧ Own w' sv 6 ((partsOf S i).flatMap Part.cells) ∧ (∀ k, vblk sv k → w.heap.size ≤ k) ∧ ∃ S', GS S' t ∧ S'.gens = S.gens.set i (g, false) ∧ S'.free = S.free ++ [i] ∧ S'.cs = S.cs ∧ S'.masks = S.masks ∧ S'.tabs.length = S.tabs.length ∧
      (∀ j gj, j ≠ i → S.gens[j]? = some (gj, true) → partsOf S' j = partsOf S j) ∧ TurnedX (vblk sv) o w b S' w' := by
  obtain ⟨n, r, hs, hn, hr, hri, m, gm, hl, hm, hsm⟩ := hG.wf.stand hg (fun h => h)
  obtain ⟨w4, v4⟩ := WFe.leave hG.wf hs hn hr hri hl hm hsm
  obtain ⟨w5, v5⟩ := w4.gone (show (leaveS S n r m hn).gens[i]? = _ from hg)
  have hrl := hG.wf.rows_le (List.getElem?_eq_getElem hn)
  have hgs := hG.wf.gs
  have h64 := hG.g64
  have hpe := partsOf_eq hs (List.getElem?_eq_getElem hn)
  rw [ptrV]
  refine f27_ok ?_
  unfold f27
  refine knew_of fun w2 hm2 hs2 hb2 => ?_
  have hb2 : blk w2 w.heap.size = some (.cells #[.int .i64 i, .int .i64 g] 37) := hb2
  repeat (first | refine kN_at ?_ | refine kB_at ?_ | refine kfld_of ?_ | refine kext_at rfl ?_ | refine kld_at hb2 rfl ?_ | refine kldN_at hb2 rfl (by omega) ?_ | refine kG_of (by first | exact rfl | omega) ?_ | refine klen_at ?_ | refine eql_at ?_ | refine neq_at ?_ | refine lss_at ?_ | refine leq_at ?_ | refine gtr_at ?_ | refine geq_at ?_ | refine add_at (by omega) (by omega) ?_ | refine sub_at (by omega) (by omega) ?_ | refine not_at ?_ | refine kO_at ?_ | refine kprt_at rfl ?_ | refine kprtN_at rfl ?_ | refine kcap_at ?_ | refine klenStr_at ?_ | refine kN_iat ?_ | refine kN_fat ?_ | refine kIf_T (by first | exact rfl | exact decT (by omega) | exact notT (decF (by omega))) ?_ | refine kIf_F (by first | exact rfl | exact decF (by omega) | exact notF (decT (by omega))) ?_)
  refine kcall_of (sSpot_spec (h.same hm2) hg hs) ?_
  rintro v wc ⟨rfl, hc⟩
  repeat (first | refine kN_at ?_ | refine kB_at ?_ | refine kfld_of ?_ | refine kext_at rfl ?_ | refine kG_of (by first | exact rfl | omega) ?_ | refine klen_at ?_ | refine eql_at ?_ | refine neq_at ?_ | refine lss_at ?_ | refine leq_at ?_ | refine gtr_at ?_ | refine geq_at ?_ | refine add_at (by omega) (by omega) ?_ | refine sub_at (by omega) (by omega) ?_ | refine not_at ?_ | refine kO_at ?_ | refine kprt_at rfl ?_ | refine kprtN_at rfl ?_ | refine kcap_at ?_ | refine klenStr_at ?_ | refine kN_iat ?_ | refine kN_fat ?_ | refine kIf_T (by first | exact rfl | exact decT (by omega) | exact notT (decF (by omega))) ?_ | refine kIf_F (by first | exact rfl | exact decF (by omega) | exact notF (decT (by omega))) ?_)
  refine knew_of fun w9 h9 hs9 hb9 => ?_
  refine kst_of (vs := [natV n, natV r]) hb9 rfl rfl rfl (by simp) (by simp) fun w10 h10 hs10 hb10 => ?_
  have hszc := hc.size
  have m10 : Same w w10 := ((hm2.trans hc).trans h9).trans' (h10.mono fun k _ e => .inr (by omega))
  have he10 := (hc.trans (h9.trans' (h10.mono fun k _ e => .inr (by omega)) : Same wc w10)).get hb2 (fun h => h)
  rw [keq_nil_nil' ifErr]
  refine kB_at ?_
  refine kIf_F rfl ?_
  unfold f27_0
  repeat (first | refine kN_at ?_ | refine kB_at ?_ | refine kfld_of ?_ | refine kext_at rfl ?_ | refine kld_at he10 rfl ?_ | refine kldN_at he10 rfl (by omega) ?_ | refine kG_of (by first | exact rfl | omega) ?_ | refine klen_at ?_ | refine eql_at ?_ | refine neq_at ?_ | refine lss_at ?_ | refine leq_at ?_ | refine gtr_at ?_ | refine geq_at ?_ | refine add_at (by omega) (by omega) ?_ | refine sub_at (by omega) (by omega) ?_ | refine not_at ?_ | refine kO_at ?_ | refine kprt_at rfl ?_ | refine kprtN_at rfl ?_ | refine kcap_at ?_ | refine klenStr_at ?_ | refine kN_iat ?_ | refine kN_fat ?_ | refine kIf_T (by first | exact rfl | exact decT (by omega) | exact notT (decF (by omega))) ?_ | refine kIf_F (by first | exact rfl | exact decF (by omega) | exact notF (decT (by omega))) ?_)
  have hP10 := h.cut m10
  refine kcall_of (sLeave_spec hP10 (g := g) (gm := gm) hs hn hr (fun c hc => hG.wf.cols n _ c (List.getElem?_eq_getElem hn) hc) hl hm (by omega)) ?_
  rintro v w15 ⟨sv, rfl, hO, hf, hP15, hm15⟩
  have hsz2 := hm2.size
  have hsz10 := m10.size
  have hsz15 := hm15.size
  have he15 := hm15.get he10 (fun ⟨t, e1, _⟩ => by rw [cutL_none (Nat.le_refl _)] at e1; cases e1)
  repeat (first | refine kN_at ?_ | refine kB_at ?_ | refine kfld_of ?_ | refine kext_at rfl ?_ | refine kG_of (by first | exact rfl | omega) ?_ | refine klen_at ?_ | refine eql_at ?_ | refine neq_at ?_ | refine lss_at ?_ | refine leq_at ?_ | refine gtr_at ?_ | refine geq_at ?_ | refine add_at (by omega) (by omega) ?_ | refine sub_at (by omega) (by omega) ?_ | refine not_at ?_ | refine kO_at ?_ | refine kprt_at rfl ?_ | refine kprtN_at rfl ?_ | refine kcap_at ?_ | refine klenStr_at ?_ | refine kN_iat ?_ | refine kN_fat ?_ | refine kIf_T (by first | exact rfl | exact decT (by omega) | exact notT (decF (by omega))) ?_ | refine kIf_F (by first | exact rfl | exact decF (by omega) | exact notF (decT (by omega))) ?_)
  rw [keq_nil_nil' ifErr]
  refine kB_at ?_
  refine kIf_F rfl ?_
  unfold f27_1
  have md : Same w15 w15.drew := (Mod.refl (fun _ => False) _).drew
  have hPd := hP15.same md
  have hed := md.get he15 (fun h => h)
  have hOd := hO.same md
  have hsd : w15.drew.heap.size = w15.heap.size := rfl
  generalize w15.drew = wd at *
  have hbd := hPd.here
  repeat (first | refine kN_at ?_ | refine kB_at ?_ | refine kfld_of ?_ | refine kext_at rfl ?_ | refine kld_at hbd rfl ?_ | refine kld_at hed rfl ?_ | refine kldN_at hbd rfl (by omega) ?_ | refine kldN_at hed rfl (by omega) ?_ | refine kG_of (by first | exact rfl | omega) ?_ | refine klen_at ?_ | refine eql_at ?_ | refine neq_at ?_ | refine lss_at ?_ | refine leq_at ?_ | refine gtr_at ?_ | refine geq_at ?_ | refine add_at (by omega) (by omega) ?_ | refine sub_at (by omega) (by omega) ?_ | refine not_at ?_ | refine kO_at ?_ | refine kprt_at rfl ?_ | refine kprtN_at rfl ?_ | refine kcap_at ?_ | refine klenStr_at ?_ | refine kN_iat ?_ | refine kN_fat ?_ | refine kIf_T (by first | exact rfl | exact decT (by omega) | exact notT (decF (by omega))) ?_ | refine kIf_F (by first | exact rfl | exact decF (by omega) | exact notF (decT (by omega))) ?_)
  refine kcall_of (rFree_spec hPd.roll (show (leaveS S n r m hn).gens[i]? = _ from hg) hfl) ?_
  rintro v w24 ⟨rfl, o5, hl5, hR5, hm5⟩
  have hP24 := hPd.setRoll hl5 hm5 hR5
  have hsv : ∀ k, vblk sv k → cutL (cutL o w.heap.size) w10.heap.size k = none := fun k hk => cutL_none (hf k hk)
  refine ⟨sv, rfl, ?_, fun k hk => by have := hf k hk; omega, goneS (leaveS S n r m hn) i g, ⟨w5, hG.fr.gone hg, fun j x hx => ?_, hG.ml, ?_⟩, rfl, rfl, rfl, rfl, ?_, fun j gj hj hgj => ?_, ?_⟩
  · rw [hpe]
    exact hOd.mod hm5 fun k hk ⟨t, e1, _⟩ => by rw [hsv k hk] at e1; cases e1
  · have hx : (S.gens.set i (g, false))[j]? = some x := hx
    have hil := (List.getElem?_eq_some_iff.1 hg).1
    by_cases hj : j = i
    · subst hj
      rw [List.getElem?_set, if_pos rfl, if_pos hil] at hx
      cases hx
      have := hG.gen j _ hg
      simpa using this
    · rw [List.getElem?_set_ne (fun e => hj e.symm)] at hx
      exact hG.gen j x hx
  · show (S.gens.set i _).length ≤ 64
    rw [List.length_set]; exact h64
  · show (List.set _ _ _).length = _
    rw [List.length_set]
  · exact (v5 j).trans (v4 j gj hj hgj)
  · refine TurnedX.wrap m10 ?_ (Mod.refl _ _)
    refine TurnedX.seq (o1 := cutL (cutL o w.heap.size) w10.heap.size) (w1 := w15) (LabEq.cut w10 _) hm15 md ?_
    refine ⟨cutL o5 w24.heap.size, p, hl5.trans (LabEq.cut w24 o5) hm5.size, hP24.frame (Mod.refl (fun _ => False) _) (fun _ _ _ h => h) (LabEq.cut w24 o5), hm5.mono fun k _ hk => FP.mono (fun _ _ => trivial) hk, fun k hk => cutL_none hk, fun k hk => ?_⟩
    have hkl := hOd.vblk_lt hk
    unfold cutL
    split
    · rw [hl5 k hkl]; exact hsv k hk
    · rfl
end Go.Proofs.YtlkpadfkmdgjcaaGreatDoor
end
