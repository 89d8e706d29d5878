/-
Lemmas for the statements of this seat: no statement of the seat is proved in this part (5 of 7); the conditions stand in each theorem.
-/
import Derived.Test.YtmidldeaapdjoaaGreatDoorTurns4
import Derived.Test.YtmidldeaapdjoaaGreatDoorProg
import Derived.DeepKeys
import Derived.Laws.StructEq
import Derived.WideKeyRuns
import Derived.DeepKeys3
import Derived.Shelf.Slices.Delete
set_option linter.unusedSimpArgs false
set_option linter.unusedVariables false
set_option maxRecDepth 100000
namespace Go.Proofs.YtmidldeaapdjoaaGreatDoor
open Go Go.Ev
section
attribute [local irreducible] kO kB kStr kInt kN kG kIf kfld kld kldN kst knew kmap kbld kbldS kext kcnv klenStr klen kcap kprt kprtN kbool kint kstr keq kun ksl kix kiv kta kmk kmm ksem ksemU kextf kcallV kcallM kcall kL
theorem smallS_spec {n : Nat} (hn : n < 100) (w : World) : Meets Tryz.prog 209 #[.int .i64 n] w fun v w' => (∃ s, v = .string s) ∧ w' = w := by
 refine f209_ok ?_
 unfold f209
 rw [kint_lss, kB_bool]
 refine kIf_dec (fun h => ?_) (fun h => ?_)
 ·rw [kint_add, wrap_i64 (by omega) (by omega), ksl_string rfl rfl]
  have hsz : (⟨#[48, 49, 50, 51, 52, 53, 54, 55, 56, 57, 97, 98, 99, 100, 101, 102, 103, 104, 105, 106, 107, 108, 109, 110, 111, 112, 113, 114, 115, 116, 117, 118, 119, 120, 121, 122]⟩ : ByteArray).size = 36 := rfl
  refine kG_of (by simp only [loV_int, hiV_int, hsz]; omega) ?_
  exact ⟨⟨_, rfl⟩, rfl⟩
 ·unfold f209_0
  rw [kint_mul, wrap_i64 (by omega) (by omega), kint_mul, wrap_i64 (by omega) (by omega), kint_add, wrap_i64 (by omega) (by omega), ksl_string rfl rfl]
  refine kG_of ?_ ?_
  ·simp only [loV_int, hiV_int]
   refine ⟨by omega, by omega, ?_⟩
   show (n : Int) * 2 + 2 ≤ ((200 : Nat) : Int)
   omega
  exact ⟨⟨_, rfl⟩, rfl⟩
theorem itoaS_spec {n : Nat} (hn : n < 100) (w : World) : Meets Tryz.prog 145 #[.int .i64 n] w fun v w' => (∃ s, v = .string s) ∧ w' = w := by
 have h2 : Meets Tryz.prog 197 #[.int .i64 n, .int .i64 10] w fun v w' => (∃ s, v = .string s) ∧ w' = w := by
  refine f197_ok ?_
  unfold f197
  rw [kint_eql, kB_bool]
  refine kIf_dec (fun _ => ?_) (fun h => absurd rfl h)
  rw [kint_leq, kB_bool]
  refine kIf_dec (fun _ => ?_) (fun h => absurd (by omega) h)
  rw [kint_lss]
  unfold f197_0
  rw [kB_bool]
  refine kIf_dec (fun _ => ?_) (fun h => absurd (by omega) h)
  refine kcall_of (smallS_spec hn w) ?_
  rintro v w' h
  exact h
 have h3 : Meets Tryz.prog 169 #[.int .i64 n] w fun v w' => (∃ s, v = .string s) ∧ w' = w := by
  refine f169_ok ?_
  unfold f169
  refine kcall_of h2 ?_
  rintro v w' h
  exact h
 refine f145_ok ?_
 unfold f145
 refine kcall_of h3 ?_
 rintro v w' h
 exact h
theorem named_spec {s : ByteArray} (h : NameOk s) (f : Value) (kd : Value) {n : Nat} (hn : n < 100) (w : World) : Meets Tryz.prog 144 #[f, .string s, .bool false, kd, .int .i64 n] w fun v w' => v = .tuple #[] ∧ Same w w' := by
 refine f144_ok ?_
 unfold f144
 refine kcall_of (itoaS_spec hn w) ?_
 rintro v w2 ⟨⟨s2, rfl⟩, rfl⟩
 refine kcall_of (isName_spec h _) ?_
 rintro v w4 ⟨rfl, h4⟩
 refine not_at ?_
 refine kB_at ?_
 refine kIf_F rfl ?_
 refine kB_at ?_
 refine kIf_F rfl ?_
 exact ⟨rfl, h4⟩
theorem isClean_spec {nm : ByteArray} {rb : Bool} {d : Nat} (h1 : 1 ≤ d) (h4 : d ≤ 4) {d0 d1 d2 d3 : Int} (c1 : (d : Int) ≤ 1 → d1 = 0) (c2 : (d : Int) ≤ 2 → d2 = 0) (c3 : (d : Int) ≤ 3 → d3 = 0) (w : World) : Meets Tryz.prog 146 #[.agg #[.string nm, .int .i64 d, .bool rb, .int .i64 d0, .int .i64 d1, .int .i64 d2, .int .i64 d3]] w fun v w' => v = .bool true ∧ Same w w' := by
 refine f146_ok ?_
 unfold f146
 refine knew_of fun w2 hm2 hs2 hb2 => ?_
 have hb2 : blk w2 w.heap.size = some (.cells #[.string nm, .int .i64 d, .bool rb, .int .i64 d0, .int .i64 d1, .int .i64 d2, .int .i64 d3] 105) := hb2
 repeat (first | refine kN_at ?_ | refine kB_at ?_ | refine kfld_of ?_ | refine kext_at rfl ?_ | refine kld_at hb2 rfl ?_ | refine kldN_at hb2 rfl (by omega) ?_ | refine kG_of (by first | exact rfl | omega) ?_ | refine klen_at ?_ | refine eql_at ?_ | refine neq_at ?_ | refine lss_at ?_ | refine leq_at ?_ | refine gtr_at ?_ | refine geq_at ?_ | refine add_at (by omega) (by omega) ?_ | refine sub_at (by omega) (by omega) ?_ | refine not_at ?_ | refine kO_at ?_ | refine kprt_at rfl ?_ | refine kprtN_at rfl ?_ | refine kcap_at ?_ | refine klenStr_at ?_ | refine kN_iat ?_ | refine kN_fat ?_ | refine kIf_T (by first | exact rfl | exact decT (by omega) | exact notT (decF (by omega))) ?_ | refine kIf_F (by first | exact rfl | exact decF (by omega) | exact notF (decT (by omega))) ?_)
 refine ksl_arr_lo (n := d) (by omega) ?_
 have hsl : SlIs w2 (some ⟨w.heap.size, if 4 = d then 0 + 3 else 0 + 3 + d * 1, none⟩) (List.replicate (4 - d) (0 : Int)).length 1 ((List.replicate (4 - d) (0 : Int)).map (Value.int .i64)) := by
  refine ⟨by simp, ?_⟩
  by_cases h : 4 = d
  ·left; simp; omega
  ·refine .inr ⟨_, _, _, _, _, rfl, hb2, ?_⟩
   rw [if_neg h]
   have : d = 1 ∨ d = 2 ∨ d = 3 := by omega
   rcases this with rfl | rfl | rfl
   ·obtain rfl := c1 (by omega)
    obtain rfl := c2 (by omega)
    obtain rfl := c3 (by omega)
    rfl
   ·obtain rfl := c2 (by omega)
    obtain rfl := c3 (by omega)
    rfl
   ·obtain rfl := c3 (by omega)
    rfl
 have hrl : (List.replicate (4 - d) (0 : Int)).length = 4 - d := by simp
 refine klen_at ?_
 refine kL1_of (4 - d) (fun j x wr => x = .int .i64 j ∧ wr = w2) ⟨lI1_0 ⟨rfl, rfl⟩, fun x wr hx => ?_⟩
 obtain ⟨j, hj, ⟨rfl, rfl⟩, hJ⟩ := lI1_step hx
 unfold f146_0
 refine lss_at ?_
 refine kB_at ?_
 refine kIf_dec (fun hlt => ?_) (fun hge => ?_)
 ·have hlt : j < 4 - d := by omega
  unfold f146_1
  refine kixld_of (F := Value.int .i64) (l := List.replicate (4 - d) (0 : Int)) hsl (by omega) rfl ?_ |> fun h => by rw [hrl] at h; exact h
  rw [List.getElem_replicate]
  refine neq_at ?_
  rw [decF (by omega)]
  refine kB_at ?_
  refine kIf_F rfl ?_
  unfold f146_2
  repeat (first | refine kN_at ?_ | refine kB_at ?_ | refine kfld_of ?_ | refine kext_at rfl ?_ | refine kG_of (by first | exact rfl | omega) ?_ | refine klen_at ?_ | refine eql_at ?_ | refine neq_at ?_ | refine lss_at ?_ | refine leq_at ?_ | refine gtr_at ?_ | refine geq_at ?_ | refine add_at (by omega) (by omega) ?_ | refine sub_at (by omega) (by omega) ?_ | refine not_at ?_ | refine kO_at ?_ | refine kprt_at rfl ?_ | refine kprtN_at rfl ?_ | refine kcap_at ?_ | refine klenStr_at ?_ | refine kN_iat ?_ | refine kN_fat ?_ | refine kIf_T (by first | exact rfl | exact decT (by omega) | exact notT (decF (by omega))) ?_ | refine kIf_F (by first | exact rfl | exact decF (by omega) | exact notF (decT (by omega))) ?_)
  rw [cast_succ]
  exact hJ _ _ hlt ⟨rfl, rfl⟩
 ·exact ⟨rfl, hm2⟩
theorem component_spec {w : World} {a : Option Addr} {L : List Comp} {cp : Nat} {ra : Option Addr} {rn rc : Nat} (hs : SlIs w a L.length 7 (L.flatMap Comp.cells)) (hG : GoodSc L) {k : Nat} (hk : k < L.length) (f : Value) :
  Meets Tryz.prog 100 #[f, scV a L.length cp (.slice ra rn rc), .int .i64 k] w fun v w' => v = .tuple #[] ∧ Same w w' := by
 have hl := hG.len
 have hkm := List.getElem_mem hk
 obtain ⟨d, hd, hd1, hd4⟩ := hG.wide _ hkm
 rw [scV]
 refine f100_ok ?_
 unfold f100
 refine knew_of fun w2 hm2 hs2 hb2 => ?_
 have hb2 : blk w2 w.heap.size = some (.cells #[.slice a L.length cp, .slice ra rn rc] 33) := hb2
 repeat (first | refine kN_at ?_ | refine kB_at ?_ | refine kfld_of ?_ | refine kext_at rfl ?_ | refine kld_at hb2 rfl ?_ | refine kldN_at hb2 rfl (by omega) ?_ | refine kG_of (by first | exact rfl | omega) ?_ | refine klen_at ?_ | refine eql_at ?_ | refine neq_at ?_ | refine lss_at ?_ | refine leq_at ?_ | refine gtr_at ?_ | refine geq_at ?_ | refine add_at (by omega) (by omega) ?_ | refine sub_at (by omega) (by omega) ?_ | refine not_at ?_ | refine kO_at ?_ | refine kprt_at rfl ?_ | refine kprtN_at rfl ?_ | refine kcap_at ?_ | refine klenStr_at ?_ | refine kN_iat ?_ | refine kN_fat ?_ | refine kIf_T (by first | exact rfl | exact decT (by omega) | exact notT (decF (by omega))) ?_ | refine kIf_F (by first | exact rfl | exact decF (by omega) | exact notF (decT (by omega))) ?_)
 refine kixldN_of (F := Comp.cells) (sz := 7) (fun _ => rfl) (by omega) (hs.same hm2) hk rfl ?_
 refine knew_of fun w8 h8 hs8 hb8 => ?_
 refine kst_of (vs := (L[k]).cells) hb8 rfl rfl rfl (by simp) (by simp [Comp.cells]) fun w9 h9 hs9 hb9 => ?_
 have hb9 : blk w9 w2.heap.size = some (.cells (L[k]).cells.toArray 105) := hb9
 have hb9' : blk w9 w2.heap.size = some (.cells #[.string (L[k]).name, .int .i64 d, .bool (L[k]).rb, .int .i64 (L[k]).d0, .int .i64 (L[k]).d1, .int .i64 (L[k]).d2, .int .i64 (L[k]).d3] 105) := by
  rw [hb9]; simp [Comp.cells, hd]
 obtain ⟨z1, z2, z3⟩ := hG.clean _ hkm
 rw [hd] at z1 z2 z3
 have hb29 := h9.get (h8.get hb2 (fun h => h)) (by omega)
 have m9 : Same w w9 := (hm2.trans h8).trans' (h9.mono fun k _ e => .inr (by omega))
 repeat (first | refine kN_at ?_ | refine kB_at ?_ | refine kfld_of ?_ | refine kext_at rfl ?_ | refine kld_at hb29 rfl ?_ | refine kld_at hb9' rfl ?_ | refine kldN_at hb29 rfl (by omega) ?_ | refine kldN_at hb9' rfl (by omega) ?_ | refine kG_of (by first | exact rfl | omega) ?_ | refine klen_at ?_ | refine eql_at ?_ | refine neq_at ?_ | refine lss_at ?_ | refine leq_at ?_ | refine gtr_at ?_ | refine geq_at ?_ | refine add_at (by omega) (by omega) ?_ | refine sub_at (by omega) (by omega) ?_ | refine not_at ?_ | refine kO_at ?_ | refine kprt_at rfl ?_ | refine kprtN_at rfl ?_ | refine kcap_at ?_ | refine klenStr_at ?_ | refine kN_iat ?_ | refine kN_fat ?_ | refine kIf_T (by first | exact rfl | exact decT (by omega) | exact notT (decF (by omega))) ?_ | refine kIf_F (by first | exact rfl | exact decF (by omega) | exact notF (decT (by omega))) ?_)
 have hfs := find_spec (ra := ra) (rn := rn) (rc := rc) (cp := cp) (hs.same m9) hG hk
 rw [scV] at hfs
 refine kcall_of hfs ?_
 rintro v w14 ⟨rfl, h14⟩
 have hb14 := h14.get hb9' (fun h => h)
 repeat (first | refine kN_at ?_ | refine kB_at ?_ | refine kfld_of ?_ | refine kext_at rfl ?_ | refine kld_at hb14 rfl ?_ | refine kldN_at hb14 rfl (by omega) ?_ | refine kG_of (by first | exact rfl | omega) ?_ | refine klen_at ?_ | refine eql_at ?_ | refine neq_at ?_ | refine lss_at ?_ | refine leq_at ?_ | refine gtr_at ?_ | refine geq_at ?_ | refine add_at (by omega) (by omega) ?_ | refine sub_at (by omega) (by omega) ?_ | refine not_at ?_ | refine kO_at ?_ | refine kprt_at rfl ?_ | refine kprtN_at rfl ?_ | refine kcap_at ?_ | refine klenStr_at ?_ | refine kN_iat ?_ | refine kN_fat ?_ | refine kIf_T (by first | exact rfl | exact decT (by omega) | exact notT (decF (by omega))) ?_ | refine kIf_F (by first | exact rfl | exact decF (by omega) | exact notF (decT (by omega))) ?_)
 rw [decF (show ¬ (k : Int) < (k : Int) by omega)]
 refine kcall_of (named_spec (hG.names _ hkm) f _ (by omega) w14) ?_
 rintro v w22 ⟨rfl, h22⟩
 have hb22 := h22.get hb14 (fun h => h)
 unfold f100_0
 refine kcall_of (itoaS_spec (by omega) w22) ?_
 rintro v w24 ⟨⟨s2, rfl⟩, rfl⟩
 repeat (first | refine kN_at ?_ | refine kB_at ?_ | refine kfld_of ?_ | refine kext_at rfl ?_ | refine kld_at hb22 rfl ?_ | refine kldN_at hb22 rfl (by omega) ?_ | refine kG_of (by first | exact rfl | omega) ?_ | refine klen_at ?_ | refine eql_at ?_ | refine neq_at ?_ | refine lss_at ?_ | refine leq_at ?_ | refine gtr_at ?_ | refine geq_at ?_ | refine add_at (by omega) (by omega) ?_ | refine sub_at (by omega) (by omega) ?_ | refine not_at ?_ | refine kO_at ?_ | refine kprt_at rfl ?_ | refine kprtN_at rfl ?_ | refine kcap_at ?_ | refine klenStr_at ?_ | refine kN_iat ?_ | refine kN_fat ?_ | refine kIf_T (by first | exact rfl | exact decT (by omega) | exact notT (decF (by omega))) ?_ | refine kIf_F (by first | exact rfl | exact decF (by omega) | exact notF (decT (by omega))) ?_)
 refine kcall_of (isClean_spec hd1 hd4 z1 z2 z3 _) ?_
 rintro v w39 ⟨rfl, h39⟩
 refine not_at ?_
 refine kB_at ?_
 refine kIf_F rfl ?_
 exact ⟨rfl, ((m9.trans h14).trans h22).trans h39⟩
end
section
attribute [local irreducible] kO kB kStr kInt kN kG kIf kfld kld kldN kst knew kmap kbld kbldS kext kcnv klenStr klen kcap kprt kprtN kbool kint kstr keq kun ksl kix kiv kta kmk kmm ksem ksemU kextf kcallV kcallM kcall kL
theorem check_spec {w : World} {a : Option Addr} {L : List Comp} {cp : Nat} {ra : Option Addr} {rc : Nat} (hs : SlIs w a L.length 7 (L.flatMap Comp.cells)) (hG : GoodSc L) :
  Meets Tryz.prog 43 #[scV a L.length cp (.slice ra 0 rc)] w fun v w' => v = .nilIface ∧ Same w w' := by
 have hl := hG.len
 rw [scV]
 refine f43_ok ?_
 unfold f43
 refine knew_of fun w2 hm2 hs2 hb2 => ?_
 have hb2 : blk w2 w.heap.size = some (.cells #[.slice a L.length cp, .slice ra 0 rc] 33) := hb2
 refine kbld_of (cs := [.slice none 0 0]) rfl ?_
 refine knew_of fun w5 hm5 hs5 hb5 => ?_
 have hb25 := hm5.get hb2 (fun h => h)
 have m5 := hm2.trans hm5
 repeat (first | refine kN_at ?_ | refine kB_at ?_ | refine kfld_of ?_ | refine kext_at rfl ?_ | refine kld_at hb25 rfl ?_ | refine kldN_at hb25 rfl (by omega) ?_ | refine kG_of (by first | exact rfl | omega) ?_ | refine klen_at ?_ | refine eql_at ?_ | refine neq_at ?_ | refine lss_at ?_ | refine leq_at ?_ | refine gtr_at ?_ | refine geq_at ?_ | refine add_at (by omega) (by omega) ?_ | refine sub_at (by omega) (by omega) ?_ | refine not_at ?_ | refine kO_at ?_ | refine kprt_at rfl ?_ | refine kprtN_at rfl ?_ | refine kcap_at ?_ | refine klenStr_at ?_ | refine kN_iat ?_ | refine kN_fat ?_ | refine kIf_T (by first | exact rfl | exact decT (by omega) | exact notT (decF (by omega))) ?_ | refine kIf_F (by first | exact rfl | exact decF (by omega) | exact notF (decT (by omega))) ?_)
 refine kL1_of L.length (fun j x wr => x = .int .i64 j ∧ Same w5 wr) ⟨lI1_0 ⟨rfl, Mod.refl _ _⟩, fun x wr hx => ?_⟩
 obtain ⟨j, hj, ⟨rfl, hm⟩, hJ⟩ := lI1_step hx
 have hbr := hm.get hb25 (fun h => h)
 have h5r := hm.get hb5 (fun h => h)
 unfold f43_1
 refine lss_at ?_
 refine kB_at ?_
 refine kIf_dec (fun hlt => ?_) (fun hge => ?_)
 ·have hlt : j < L.length := by omega
  unfold f43_2
  repeat (first | refine kN_at ?_ | refine kB_at ?_ | refine kfld_of ?_ | refine kext_at rfl ?_ | refine kld_at hbr rfl ?_ | refine kldN_at hbr rfl (by omega) ?_ | refine kG_of (by first | exact rfl | omega) ?_ | refine klen_at ?_ | refine eql_at ?_ | refine neq_at ?_ | refine lss_at ?_ | refine leq_at ?_ | refine gtr_at ?_ | refine geq_at ?_ | refine add_at (by omega) (by omega) ?_ | refine sub_at (by omega) (by omega) ?_ | refine not_at ?_ | refine kO_at ?_ | refine kprt_at rfl ?_ | refine kprtN_at rfl ?_ | refine kcap_at ?_ | refine klenStr_at ?_ | refine kN_iat ?_ | refine kN_fat ?_ | refine kIf_T (by first | exact rfl | exact decT (by omega) | exact notT (decF (by omega))) ?_ | refine kIf_F (by first | exact rfl | exact decF (by omega) | exact notF (decT (by omega))) ?_)
  have hcs := component_spec (ra := ra) (rn := 0) (rc := rc) (cp := cp) (hs.same (m5.trans hm)) hG hlt (.pointer (some ⟨w2.heap.size, 0, none⟩))
  rw [scV] at hcs
  refine kcall_of hcs ?_
  rintro v w23 ⟨rfl, h23⟩
  repeat (first | refine kN_at ?_ | refine kB_at ?_ | refine kfld_of ?_ | refine kext_at rfl ?_ | refine kG_of (by first | exact rfl | omega) ?_ | refine klen_at ?_ | refine eql_at ?_ | refine neq_at ?_ | refine lss_at ?_ | refine leq_at ?_ | refine gtr_at ?_ | refine geq_at ?_ | refine add_at (by omega) (by omega) ?_ | refine sub_at (by omega) (by omega) ?_ | refine not_at ?_ | refine kO_at ?_ | refine kprt_at rfl ?_ | refine kprtN_at rfl ?_ | refine kcap_at ?_ | refine klenStr_at ?_ | refine kN_iat ?_ | refine kN_fat ?_ | refine kIf_T (by first | exact rfl | exact decT (by omega) | exact notT (decF (by omega))) ?_ | refine kIf_F (by first | exact rfl | exact decF (by omega) | exact notF (decT (by omega))) ?_)
  rw [cast_succ]
  exact hJ _ _ hlt ⟨rfl, hm.trans h23⟩
 ·unfold f43_4
  repeat (first | refine kN_at ?_ | refine kB_at ?_ | refine kfld_of ?_ | refine kext_at rfl ?_ | refine kld_at hbr rfl ?_ | refine kldN_at hbr rfl (by omega) ?_ | refine kG_of (by first | exact rfl | omega) ?_ | refine klen_at ?_ | refine eql_at ?_ | refine neq_at ?_ | refine lss_at ?_ | refine leq_at ?_ | refine gtr_at ?_ | refine geq_at ?_ | refine add_at (by omega) (by omega) ?_ | refine sub_at (by omega) (by omega) ?_ | refine not_at ?_ | refine kO_at ?_ | refine kprt_at rfl ?_ | refine kprtN_at rfl ?_ | refine kcap_at ?_ | refine klenStr_at ?_ | refine kN_iat ?_ | refine kN_fat ?_ | refine kIf_T (by first | exact rfl | exact decT (by omega) | exact notT (decF (by omega))) ?_ | refine kIf_F (by first | exact rfl | exact decF (by omega) | exact notF (decT (by omega))) ?_)
  refine kL1_of 0 (fun j x w1 => x = .int .i64 0 ∧ w1 = wr) ⟨lI1_0 ⟨rfl, rfl⟩, fun x w1 hx => ?_⟩
  obtain ⟨j', hj', ⟨rfl, rfl⟩, _⟩ := lI1_step hx
  unfold f43_6
  refine lss_at ?_
  refine kB_at ?_
  refine kIf_F (by simp) ?_
  unfold f43_9
  have h5r : blk w1 w2.heap.size = some (.cells #[.slice none 0 0] 180) := h5r
  repeat (first | refine kN_at ?_ | refine kB_at ?_ | refine kfld_of ?_ | refine kext_at rfl ?_ | refine kld_at h5r rfl ?_ | refine kldN_at h5r rfl (by omega) ?_ | refine kG_of (by first | exact rfl | omega) ?_ | refine klen_at ?_ | refine eql_at ?_ | refine neq_at ?_ | refine lss_at ?_ | refine leq_at ?_ | refine gtr_at ?_ | refine geq_at ?_ | refine add_at (by omega) (by omega) ?_ | refine sub_at (by omega) (by omega) ?_ | refine not_at ?_ | refine kO_at ?_ | refine kprt_at rfl ?_ | refine kprtN_at rfl ?_ | refine kcap_at ?_ | refine klenStr_at ?_ | refine kN_iat ?_ | refine kN_fat ?_ | refine kIf_T (by first | exact rfl | exact decT (by omega) | exact notT (decF (by omega))) ?_ | refine kIf_F (by first | exact rfl | exact decF (by omega) | exact notF (decT (by omega))) ?_)
  refine kcall_of (All_spec (S := fun _ => ⟨0, 0, none⟩) (d := 0) (zs := []) (SlIs.nil _ _ _) (fun p hp => by cases hp) (by simp) (by simp)) ?_
  rintro v w46 ⟨h1, h46⟩
  rcases h1.nil_iff with ⟨_, rfl⟩ | ⟨h, _⟩
  ·exact ⟨rfl, (m5.trans hm).trans h46⟩
  ·exact absurd rfl h
end
section
attribute [local irreducible] kO kB kStr kInt kN kG kIf kfld kld kldN kst knew kmap kbld kbldS kext kcnv klenStr klen kcap kprt kprtN kbool kint kstr keq kun ksl kix kiv kta kmk kmm ksem ksemU kextf kcallV kcallM kcall kL
theorem apComp : appT Tryz.prog 30 7 64 = true := by kernel_rfl
theorem slComp : isSlT Tryz.prog 30 = true := by kernel_rfl
theorem slComp_is : ∃ e, Tryz.prog.underlying 30 = some (.slice e) := slT_of (by kernel_rfl)
theorem apRes : appT Tryz.prog 31 2 24 = true := by kernel_rfl
theorem slRes : isSlT Tryz.prog 31 = true := by kernel_rfl
theorem slRes_is : ∃ e, Tryz.prog.underlying 31 = some (.slice e) := slT_of (by kernel_rfl)
theorem ones_comps : ∀ L : List Comp, oneCells (L.flatMap Comp.cells) = true
 | [] => rfl
 | q :: L => by
  rw [List.flatMap_cons]
  show oneCells (.string q.name :: .int .i64 q.width :: .bool q.rb :: .int .i64 q.d0 :: .int .i64 q.d1 :: .int .i64 q.d2 :: .int .i64 q.d3 :: L.flatMap Comp.cells) = true
  simp only [oneCells, ones_comps L]; rfl
theorem cloneC_spec {w : World} {a : Option Addr} {L : List Comp} {c : Nat} (hs : SlIs w a L.length 7 (L.flatMap Comp.cells)) (hn : L.length ≤ 1000000) :
  Meets Tryz.prog 47 #[.slice a L.length c] w fun v w' => Own w' v 7 (L.flatMap Comp.cells) ∧ Same w w' ∧ (∀ k, vblk v k → w.heap.size ≤ k) := by
 have hfl := flat_len Comp.cells 7 (fun _ => rfl) L
 refine f47_ok ?_
 unfold f47
 rw [keq_sl_nil slComp]
 cases a with
 | none =>
  have hL : L.length = 0 := by rcases hs.2 with h | ⟨_, _, _, _, _, h, _⟩; exact h; cases h
  have : L = [] := List.eq_nil_of_length_eq_zero hL
  subst this
  repeat (first | refine kN_at ?_ | refine kB_at ?_ | refine kfld_of ?_ | refine kext_at rfl ?_ | refine kG_of (by first | exact rfl | omega) ?_ | refine klen_at ?_ | refine eql_at ?_ | refine neq_at ?_ | refine lss_at ?_ | refine leq_at ?_ | refine gtr_at ?_ | refine geq_at ?_ | refine add_at (by omega) (by omega) ?_ | refine sub_at (by omega) (by omega) ?_ | refine not_at ?_ | refine kO_at ?_ | refine kprt_at rfl ?_ | refine kprtN_at rfl ?_ | refine kcap_at ?_ | refine klenStr_at ?_ | refine kN_iat ?_ | refine kN_fat ?_ | refine kIf_T (by first | exact rfl | exact decT (by omega) | exact notT (decF (by omega))) ?_ | refine kIf_F (by first | exact rfl | exact decF (by omega) | exact notF (decT (by omega))) ?_)
  exact ⟨Own.nil _ _, Mod.refl _ _, fun b hb => by obtain ⟨_, _, _, h⟩ := hb; cases h⟩
 | some a =>
  repeat (first | refine kN_at ?_ | refine kB_at ?_ | refine kfld_of ?_ | refine kext_at rfl ?_ | refine kG_of (by first | exact rfl | omega) ?_ | refine klen_at ?_ | refine eql_at ?_ | refine neq_at ?_ | refine lss_at ?_ | refine leq_at ?_ | refine gtr_at ?_ | refine geq_at ?_ | refine add_at (by omega) (by omega) ?_ | refine sub_at (by omega) (by omega) ?_ | refine not_at ?_ | refine kO_at ?_ | refine kprt_at rfl ?_ | refine kprtN_at rfl ?_ | refine kcap_at ?_ | refine klenStr_at ?_ | refine kN_iat ?_ | refine kN_fat ?_ | refine kIf_T (by first | exact rfl | exact decT (by omega) | exact notT (decF (by omega))) ?_ | refine kIf_F (by first | exact rfl | exact decF (by omega) | exact notF (decT (by omega))) ?_)
  unfold f47_0
  refine kbldS_of (cs := []) rfl fun w5 h5 hs5 hb5 => ?_
  refine ksem_append apComp (by omega) (vs := []) (Own.blk hb5 (n := 0) (by simp) (by simp [maxLen])) (Src.ofSlIs (hk := slComp_is.choose_spec) c (hs.same h5) (ones_comps L)) (by simp [hfl]; omega) (by simp [hfl]; omega) ?_
  intro v' w' ho hm hf
  refine ⟨by simpa using ho, Mod.after h5 hm (fun b hb => by rw [vblk_new hb]; exact Nat.le_refl _), fun b hb => ?_⟩
  rcases hf b hb with h | h
  ·rw [vblk_new h]; exact Nat.le_refl _
  ·omega
theorem cloneR_spec {w : World} {a : Option Addr} {c : Nat} :
  Meets Tryz.prog 48 #[.slice a 0 c] w fun v w' => (∃ a' n' c', v = .slice a' n' c') ∧ Same w w' := by
 refine f48_ok ?_
 unfold f48
 rw [keq_sl_nil slRes]
 cases a with
 | none =>
  repeat (first | refine kN_at ?_ | refine kB_at ?_ | refine kfld_of ?_ | refine kext_at rfl ?_ | refine kG_of (by first | exact rfl | omega) ?_ | refine klen_at ?_ | refine eql_at ?_ | refine neq_at ?_ | refine lss_at ?_ | refine leq_at ?_ | refine gtr_at ?_ | refine geq_at ?_ | refine add_at (by omega) (by omega) ?_ | refine sub_at (by omega) (by omega) ?_ | refine not_at ?_ | refine kO_at ?_ | refine kprt_at rfl ?_ | refine kprtN_at rfl ?_ | refine kcap_at ?_ | refine klenStr_at ?_ | refine kN_iat ?_ | refine kN_fat ?_ | refine kIf_T (by first | exact rfl | exact decT (by omega) | exact notT (decF (by omega))) ?_ | refine kIf_F (by first | exact rfl | exact decF (by omega) | exact notF (decT (by omega))) ?_)
  exact ⟨⟨_, _, _, rfl⟩, Mod.refl _ _⟩
 | some a =>
  repeat (first | refine kN_at ?_ | refine kB_at ?_ | refine kfld_of ?_ | refine kext_at rfl ?_ | refine kG_of (by first | exact rfl | omega) ?_ | refine klen_at ?_ | refine eql_at ?_ | refine neq_at ?_ | refine lss_at ?_ | refine leq_at ?_ | refine gtr_at ?_ | refine geq_at ?_ | refine add_at (by omega) (by omega) ?_ | refine sub_at (by omega) (by omega) ?_ | refine not_at ?_ | refine kO_at ?_ | refine kprt_at rfl ?_ | refine kprtN_at rfl ?_ | refine kcap_at ?_ | refine klenStr_at ?_ | refine kN_iat ?_ | refine kN_fat ?_ | refine kIf_T (by first | exact rfl | exact decT (by omega) | exact notT (decF (by omega))) ?_ | refine kIf_F (by first | exact rfl | exact decF (by omega) | exact notF (decT (by omega))) ?_)
  unfold f48_0
  refine kbldS_of (cs := []) rfl fun w5 h5 hs5 hb5 => ?_
  refine ksem_append apRes (by omega) (vs := []) (Own.blk hb5 (n := 0) (by simp) (by simp [maxLen])) (Src.ofSlIs (hk := slRes_is.choose_spec) c (SlIs.nil _ _ _) rfl) (by simp) (by simp) ?_
  intro v' w' ho hm hf
  obtain ⟨a', n', c', rfl, _⟩ := ho.is
  exact ⟨⟨_, _, _, rfl⟩, Mod.after h5 hm (fun b hb => by rw [vblk_new hb]; exact Nat.le_refl _)⟩
end
section
attribute [local irreducible] kO kB kStr kInt kN kG kIf kfld kld kldN kst knew kmap kbld kbldS kext kcnv klenStr klen kcap kprt kprtN kbool kint kstr keq kun ksl kix kiv kta kmk kmm ksem ksemU kextf kcallV kcallM kcall kL
def newS0 (L : List Comp) (most : Nat) : SM := ⟨List.replicate most (0, false), (List.range most).reverse, L, [0], [], List.replicate most (0, 0)⟩
def newS (L : List Comp) (most : Nat) : SM := layS (newS0 L most) 1
theorem newS_gs {L : List Comp} {most : Nat} (h : most ≤ 64) : GS (newS L most) 0 := by
 have hd : ∀ (i : Nat) (x : Int × Bool), (List.replicate most ((0 : Int), false))[i]? = some x → x = (0, false) := fun i x e => by
  obtain ⟨_, e⟩ := List.getElem?_eq_some_iff.1 e
  rw [List.getElem_replicate] at e; exact e.symm
 refine ⟨⟨by simp [newS, newS0, layS], fun i g hg _ => ?_, fun n T r e hT hr => ?_, fun n T c hT hc => ?_⟩, ⟨?_, fun i => ?_⟩, fun i x hx => ?_, by simp [newS, newS0, layS], by simp [newS, newS0, layS]; exact h⟩
 ·have := hd i _ hg; cases this
 ·rcases layS_tabs hT with hT | rfl
  ·cases hT
  ·cases hr
 ·rcases layS_tabs hT with hT | rfl
  ·cases hT
  ·rfl
 ·show (List.range most).reverse.Nodup
  unfold List.Nodup
  rw [List.pairwise_reverse]
  exact List.nodup_range.imp (fun h e => h e.symm)
 ·show i ∈ (List.range most).reverse ↔ ∃ g, (List.replicate most ((0 : Int), false))[i]? = some (g, false)
  rw [List.mem_reverse, List.mem_range]
  constructor
  ·intro hi; exact ⟨0, by rw [List.getElem?_replicate, if_pos hi]⟩
  ·rintro ⟨g, e⟩
   have := (List.getElem?_eq_some_iff.1 e).1
   simpa using this
 ·have := hd i x hx
  subst this
  simp
def newLab (o : Lab) (n bc bp bS k : Nat) : Option Tag := if k < n then o k else if k = bS then some .store else if k = bp then some .spots else if k = bc then some .sch else none
theorem newS_good {L : List Comp} (hG : GoodSc L) : GoodC L := ⟨hG.len, fun q hq => by obtain ⟨d, e, h1, h4⟩ := hG.wide q hq; omega⟩
theorem sNew_spec {w : World} (hD : DeAt w) {a : Option Addr} {L : List Comp} {cp : Nat} {ra : Option Addr} {rc : Nat} (hs : SlIs w a L.length 7 (L.flatMap Comp.cells)) (hG : GoodSc L) {most : Nat} (hm : most ≤ 64) :
  Meets Tryz.prog 8 #[scV a L.length cp (.slice ra 0 rc), .int .i64 most] w fun v w' => ∃ b, v = .tuple #[ptrV b, .nilIface] ∧ ∃ o p, StoreP o w' b p (newS L most) ∧ (∀ k, k < w.heap.size → o k = none) ∧ (∀ k, w'.heap.size ≤ k → o k = none) ∧ Same w w' := by
 have hl := hG.len
 rw [scV]
 refine f8_ok ?_
 unfold f8
 refine knew_of fun w2 h2 hs2 hb2 => ?_
 have hb2 : blk w2 w.heap.size = some (.cells #[.slice a L.length cp, .slice ra 0 rc] 33) := hb2
 repeat (first | refine kN_at ?_ | refine kB_at ?_ | refine kfld_of ?_ | refine kext_at rfl ?_ | refine kld_at hb2 rfl ?_ | refine kldN_at hb2 rfl (by omega) ?_ | refine kG_of (by first | exact rfl | omega) ?_ | refine klen_at ?_ | refine eql_at ?_ | refine neq_at ?_ | refine lss_at ?_ | refine leq_at ?_ | refine gtr_at ?_ | refine geq_at ?_ | refine add_at (by omega) (by omega) ?_ | refine sub_at (by omega) (by omega) ?_ | refine not_at ?_ | refine kO_at ?_ | refine kprt_at rfl ?_ | refine kprtN_at rfl ?_ | refine kcap_at ?_ | refine klenStr_at ?_ | refine kN_iat ?_ | refine kN_fat ?_ | refine kIf_T (by first | exact rfl | exact decT (by omega) | exact notT (decF (by omega))) ?_ | refine kIf_F (by first | exact rfl | exact decF (by omega) | exact notF (decT (by omega))) ?_)
 have hck := check_spec (ra := ra) (rc := rc) (cp := cp) (hs.same h2) hG
 rw [scV] at hck
 refine kcall_of hck ?_
 rintro v w5 ⟨rfl, h5⟩
 have hb5 := h5.get hb2 (fun h => h)
 have m5 := h2.trans h5
 rw [keq_nil_nil' ifErr]
 refine kB_at ?_
 refine kIf_F rfl ?_
 unfold f8_0
 refine kcall_of (rNew_spec (fun _ => none) w5 most hm) ?_
 rintro v w11 ⟨bR, o1, rfl, hl1, hR, h11, hr1, hbR⟩
 have hb11 := h11.get hb5 (fun h => h)
 have m11 := m5.trans h11
 have hRl := hR.1
 repeat (first | refine kN_at ?_ | refine kB_at ?_ | refine kfld_of ?_ | refine kext_at rfl ?_ | refine kG_of (by first | exact rfl | omega) ?_ | refine klen_at ?_ | refine eql_at ?_ | refine neq_at ?_ | refine lss_at ?_ | refine leq_at ?_ | refine gtr_at ?_ | refine geq_at ?_ | refine add_at (by omega) (by omega) ?_ | refine sub_at (by omega) (by omega) ?_ | refine not_at ?_ | refine kO_at ?_ | refine kprt_at rfl ?_ | refine kprtN_at rfl ?_ | refine kcap_at ?_ | refine klenStr_at ?_ | refine kN_iat ?_ | refine kN_fat ?_ | refine kIf_T (by first | exact rfl | exact decT (by omega) | exact notT (decF (by omega))) ?_ | refine kIf_F (by first | exact rfl | exact decF (by omega) | exact notF (decT (by omega))) ?_)
 rw [keq_nil_nil' ifErr]
 refine kB_at ?_
 refine kIf_F rfl ?_
 unfold f8_1
 repeat (first | refine kN_at ?_ | refine kB_at ?_ | refine kfld_of ?_ | refine kext_at rfl ?_ | refine kld_at hb11 rfl ?_ | refine kldN_at hb11 rfl (by omega) ?_ | refine kG_of (by first | exact rfl | omega) ?_ | refine klen_at ?_ | refine eql_at ?_ | refine neq_at ?_ | refine lss_at ?_ | refine leq_at ?_ | refine gtr_at ?_ | refine geq_at ?_ | refine add_at (by omega) (by omega) ?_ | refine sub_at (by omega) (by omega) ?_ | refine not_at ?_ | refine kO_at ?_ | refine kprt_at rfl ?_ | refine kprtN_at rfl ?_ | refine kcap_at ?_ | refine klenStr_at ?_ | refine kN_iat ?_ | refine kN_fat ?_ | refine kIf_T (by first | exact rfl | exact decT (by omega) | exact notT (decF (by omega))) ?_ | refine kIf_F (by first | exact rfl | exact decF (by omega) | exact notF (decT (by omega))) ?_)
 have ho1 : ∀ k t, cutL o1 w11.heap.size k = some t → ¬ atlasTag t := fun k t e et => by
  unfold cutL at e
  split at e
  ·rcases Nat.lt_or_ge k w5.heap.size with hk | hk
   ·rw [hl1 k hk] at e; cases e
   ·obtain ⟨t', e1, e2⟩ := hr1 k hk
    rw [e] at e1; cases e1
    exact tag_roll_atlas e2 et
  ·cases e
 refine kcall_of (newAt_spec (cutL o1 w11.heap.size) ho1 w11 L.length hl) ?_
 rintro v w23 ⟨bA, o2, rfl, hl2, hA, h23⟩
 have hb23 := h23.get hb11 (fun h => h)
 have m23 := m11.trans h23
 have hR1 : RollAt (cutL o1 w11.heap.size) w11 bR _ _ := hR.frame (Mod.refl (fun _ => False) _) (fun _ _ _ _ h => h) (LabEq.cut w11 o1)
 have hR2 := hR1.frame h23 (fun _ _ _ _ h => h) hl2
 have hsz5 := m5.size
 have hsz11 := h11.size
 have hsz23 := h23.size
 have ho2 : ∀ k, k < w.heap.size → o2 k = none := fun k hk => by
  rw [hl2 k (by omega)]
  unfold cutL
  rw [if_pos (by omega), hl1 k (by omega)]
 have hDlt := hD.lt
 repeat (first | refine kN_at ?_ | refine kB_at ?_ | refine kfld_of ?_ | refine kext_at rfl ?_ | refine kG_of (by first | exact rfl | omega) ?_ | refine klen_at ?_ | refine eql_at ?_ | refine neq_at ?_ | refine lss_at ?_ | refine leq_at ?_ | refine gtr_at ?_ | refine geq_at ?_ | refine add_at (by omega) (by omega) ?_ | refine sub_at (by omega) (by omega) ?_ | refine not_at ?_ | refine kO_at ?_ | refine kprt_at rfl ?_ | refine kprtN_at rfl ?_ | refine kcap_at ?_ | refine klenStr_at ?_ | refine kN_iat ?_ | refine kN_fat ?_ | refine kIf_T (by first | exact rfl | exact decT (by omega) | exact notT (decF (by omega))) ?_ | refine kIf_F (by first | exact rfl | exact decF (by omega) | exact notF (decT (by omega))) ?_)
 rw [keq_nil_nil' ifErr]
 refine kB_at ?_
 refine kIf_F rfl ?_
 have fin : ∀ (bsc : Nat) (wy : World) (ca : Option Addr) (cc : Nat) (rv : Value), Same w23 wy → blk wy bsc = some (.cells #[.slice ca L.length cc, rv] 33) → SlIs wy ca L.length 7 (L.flatMap Comp.cells) → (∀ k f, ca = some ⟨k, f, none⟩ → w23.heap.size ≤ k ∧ k < wy.heap.size) → rv.oneCell' = true →
   f8_3 (.int .i64 most) (.pointer (some ⟨bR, 0, none⟩)) (ptrV bA) (.pointer (some ⟨bsc, 0, none⟩)) (fun v w' => ∃ b, v = .tuple #[ptrV b, .nilIface] ∧ ∃ o p, StoreP o w' b p (newS L most) ∧ (∀ k, k < w.heap.size → o k = none) ∧ (∀ k, w'.heap.size ≤ k → o k = none) ∧ Same w w') wy := by
  intro bsc wy ca cc rv hwy hbsc hca hcf hrv
  have hszy := hwy.size
  unfold f8_3
  have hbscd : blk wy.drew bsc = _ := hbsc
  repeat (first | refine kN_at ?_ | refine kB_at ?_ | refine kfld_of ?_ | refine kext_at rfl ?_ | refine kld_at hbscd rfl ?_ | refine kldN_at hbscd rfl (by omega) ?_ | refine kG_of (by first | exact rfl | omega) ?_ | refine klen_at ?_ | refine eql_at ?_ | refine neq_at ?_ | refine lss_at ?_ | refine leq_at ?_ | refine gtr_at ?_ | refine geq_at ?_ | refine add_at (by omega) (by omega) ?_ | refine sub_at (by omega) (by omega) ?_ | refine not_at ?_ | refine kO_at ?_ | refine kprt_at rfl ?_ | refine kprtN_at rfl ?_ | refine kcap_at ?_ | refine klenStr_at ?_ | refine kN_iat ?_ | refine kN_fat ?_ | refine kIf_T (by first | exact rfl | exact decT (by omega) | exact notT (decF (by omega))) ?_ | refine kIf_F (by first | exact rfl | exact decF (by omega) | exact notF (decT (by omega))) ?_)
  refine kmk_of (by omega) (by omega) fun w44 h44 hs44 hb44 => ?_
  have hbsc44 := h44.get hbscd (fun h => h)
  refine kG_of (kldN_at hbsc44 rfl (by omega) ⟨rfl, rfl⟩) ?_
  refine kbld_of (cs := [.pointer (some ⟨bR, 0, none⟩), .slice ca L.length cc, rv, ptrV bA, .slice none 0 0, .slice (some ⟨wy.heap.size, 0, none⟩) most most]) rfl ?_
  refine knew_of fun w47 h47 hs47 hb47 => ?_
  have hb47 : blk w47 w44.heap.size = some (.cells #[.pointer (some ⟨bR, 0, none⟩), .slice ca L.length cc, rv, ptrV bA, .slice none 0 0, .slice (some ⟨wy.heap.size, 0, none⟩) most most] 112) := hb47
  have hs44 : w44.heap.size = wy.heap.size + 1 := hs44
  have m47 : Same w23 w47 := ((hwy.trans (Mod.refl (fun _ => False) _).drew).trans h44).trans h47
  have hz : zrow (Value.agg #[.int .i64 0, .int .i64 0]).cells.toList most = (List.replicate most ((0 : Nat), (0 : Nat))).flatMap spotC := zrow_rep (F := spotC) ((0 : Nat), (0 : Nat)) most
  rw [hz] at hb44
  have hb44 : blk w44 wy.heap.size = some (.cells ((List.replicate most ((0 : Nat), (0 : Nat))).flatMap spotC).toArray 120) := hb44
  have hOs := Own.blk (h47.get hb44 (fun h => h)) (n := most) (sz := 2) (by rw [List.size_toArray, flat_len spotC 2 (fun _ => rfl), List.length_replicate]) (by simp [maxLen]; omega)
  rw [List.toList_toArray] at hOs
  generalize hbcB : (match ca with | some x => x.block | none => 0) = bcB
  have hlo : LabEq w23 o2 (newLab o2 w23.heap.size bcB wy.heap.size w44.heap.size) := fun k hk => by unfold newLab; rw [if_pos hk]
  have hl47 : newLab o2 w23.heap.size bcB wy.heap.size w44.heap.size w44.heap.size = some .store := by unfold newLab; rw [if_neg (by omega), if_pos rfl]
  have hlsp : newLab o2 w23.heap.size bcB wy.heap.size w44.heap.size wy.heap.size = some .spots := by unfold newLab; rw [if_neg (by omega), if_neg (by omega), if_pos rfl]
  have hP : StoreP (newLab o2 w23.heap.size bcB wy.heap.size w44.heap.size) w47 w44.heap.size ⟨bR, bA, ca, cc, rv, .slice none 0 0, .slice (some ⟨wy.heap.size, 0, none⟩) most most, fun _ => 0, fun _ _ => 0⟩ (newS0 L most) := {
   lab := hl47
   good := newS_good hG
   tle := by simp [newS0]
   mle := by simp [newS0]
   sle := by simp [newS0]; exact hm
   here := hb47
   roll := hR2.frame m47 (fun _ _ _ _ h => h) hlo
   atlas := hA.frame m47 (fun _ _ _ _ h => h) hlo
   sch := (hca.same (Mod.refl (fun _ => False) _).drew).same (h44.trans h47)
   schl := fun k f e => by
    have e : ca = some ⟨k, f, none⟩ := e
    obtain ⟨k1, k2⟩ := hcf k f e
    have hk : k = bcB := by rw [← hbcB, e]
    refine ⟨?_, by omega⟩
    unfold newLab
    rw [if_neg (by omega), if_neg (by omega), if_neg (by omega), if_pos hk]
   tabs := Own.nil _ _
   tabsl := fun k e => by obtain ⟨_, _, _, e⟩ := e; cases e
   spots := hOs
   spotsl := fun k e => by obtain ⟨_, _, _, e⟩ := e; cases e; exact hlsp
   tab := fun i hi => by simp [newS0] at hi }
  have hDn : newLab o2 w23.heap.size bcB wy.heap.size w44.heap.size 9 = none := by
   unfold newLab
   rw [if_pos (by omega)]
   exact ho2 _ (by omega)
  have h47' : Same w w47 := m23.trans m47
  refine kcall_of (sLay_spec (hD.same h47') hP hDn) ?_
  rintro v w49 ⟨rfl, o4, p4, hl4, hP4, hm4, hc4⟩
  have hn : ∀ k, k < w.heap.size → newLab o2 w23.heap.size bcB wy.heap.size w44.heap.size k = none := fun k hk => by
   unfold newLab
   rw [if_pos (by omega)]
   exact ho2 k hk
  have hsz47 := h47'.size
  refine ⟨w44.heap.size, rfl, o4, p4, hP4, fun k hk => by rw [hl4 k (by omega)]; exact hn k hk, hc4, h47'.trans' (hm4.mono fun k _ ⟨t, e1, _⟩ => .inr ?_)⟩
  rcases Nat.lt_or_ge k w.heap.size with hk | hk
  ·rw [hn k hk] at e1; cases e1
  ·exact hk
 have hbd : blk w23.drew w.heap.size = some (.cells #[.slice a L.length cp, .slice ra 0 rc] 33) := hb23
 have md : Same w23 w23.drew := (Mod.refl (fun _ => False) _).drew
 have hsd := (hs.same m23).same md
 unfold f8_2
 refine ⟨?_, ?_⟩
 ·repeat (first | refine kN_at ?_ | refine kB_at ?_ | refine kfld_of ?_ | refine kext_at rfl ?_ | refine kld_at hbd rfl ?_ | refine kldN_at hbd rfl (by omega) ?_ | refine kG_of (by first | exact rfl | omega) ?_ | refine klen_at ?_ | refine eql_at ?_ | refine neq_at ?_ | refine lss_at ?_ | refine leq_at ?_ | refine gtr_at ?_ | refine geq_at ?_ | refine add_at (by omega) (by omega) ?_ | refine sub_at (by omega) (by omega) ?_ | refine not_at ?_ | refine kO_at ?_ | refine kprt_at rfl ?_ | refine kprtN_at rfl ?_ | refine kcap_at ?_ | refine klenStr_at ?_ | refine kN_iat ?_ | refine kN_fat ?_ | refine kIf_T (by first | exact rfl | exact decT (by omega) | exact notT (decF (by omega))) ?_ | refine kIf_F (by first | exact rfl | exact decF (by omega) | exact notF (decT (by omega))) ?_)
  refine kcall_of (cloneC_spec hsd (by omega)) ?_
  rintro v w33 ⟨hO, h33, hf⟩
  obtain ⟨ca, cn, cc, rfl, hcs, _⟩ := hO.is
  have hcn : cn = L.length := by
   have := hcs.1
   rw [flat_len Comp.cells 7 (fun _ => rfl)] at this
   omega
  subst hcn
  have hb33 := h33.get hbd (fun h => h)
  have hfk : ∀ k f, ca = some ⟨k, f, none⟩ → w23.heap.size ≤ k ∧ k < w33.heap.size := fun k f e => by
   have hv : vblk (.slice ca L.length cc) k := ⟨f, _, _, by rw [e]⟩
   exact ⟨hf k hv, hO.vblk_lt hv⟩
  refine ⟨?_, ?_⟩
  ·repeat (first | refine kN_at ?_ | refine kB_at ?_ | refine kfld_of ?_ | refine kext_at rfl ?_ | refine kld_at hb33 rfl ?_ | refine kldN_at hb33 rfl (by omega) ?_ | refine kG_of (by first | exact rfl | omega) ?_ | refine klen_at ?_ | refine eql_at ?_ | refine neq_at ?_ | refine lss_at ?_ | refine leq_at ?_ | refine gtr_at ?_ | refine geq_at ?_ | refine add_at (by omega) (by omega) ?_ | refine sub_at (by omega) (by omega) ?_ | refine not_at ?_ | refine kO_at ?_ | refine kprt_at rfl ?_ | refine kprtN_at rfl ?_ | refine kcap_at ?_ | refine klenStr_at ?_ | refine kN_iat ?_ | refine kN_fat ?_ | refine kIf_T (by first | exact rfl | exact decT (by omega) | exact notT (decF (by omega))) ?_ | refine kIf_F (by first | exact rfl | exact decF (by omega) | exact notF (decT (by omega))) ?_)
   refine kG_of (kld_at hbd rfl ⟨rfl, rfl⟩) ?_
   refine kcall_of cloneR_spec ?_
   rintro v w37 ⟨⟨a', n', c', rfl⟩, h37⟩
   refine knew_of fun w39 h39 hs39 hb39 => ?_
   have hb39' := h39.get (h37.get hb33 (fun h => h)) (fun h => h)
   refine kG_of (kld_at hb39' rfl ⟨rfl, rfl⟩) ?_
   refine kG_of (kld_at hb39' rfl ⟨rfl, rfl⟩) ?_
   refine kbld_of (cs := [.slice ca L.length cc, .slice a' n' c']) rfl ?_
   refine kst_of (vs := [.slice ca L.length cc, .slice a' n' c']) hb39 rfl rfl rfl (by simp) (by simp) fun w41 h41 hs41 hb41 => ?_
   have m41 : Same w33 w41 := (h37.trans h39).trans' (h41.mono fun k _ e => .inr (by have := h37.size; omega))
   exact fin _ w41 ca cc _ ((md.trans h33).trans m41) hb41 (hcs.same m41) (fun k f e => by have := hfk k f e; have := m41.size; omega) rfl
  ·refine knew_of fun w39 h39 hs39 hb39 => ?_
   have hb39' := h39.get hb33 (fun h => h)
   refine kG_of (kld_at hb39' rfl ⟨rfl, rfl⟩) ?_
   repeat (first | refine kN_at ?_ | refine kB_at ?_ | refine kfld_of ?_ | refine kext_at rfl ?_ | refine kld_at hb39' rfl ?_ | refine kldN_at hb39' rfl (by omega) ?_ | refine kG_of (by first | exact rfl | omega) ?_ | refine klen_at ?_ | refine eql_at ?_ | refine neq_at ?_ | refine lss_at ?_ | refine leq_at ?_ | refine gtr_at ?_ | refine geq_at ?_ | refine add_at (by omega) (by omega) ?_ | refine sub_at (by omega) (by omega) ?_ | refine not_at ?_ | refine kO_at ?_ | refine kprt_at rfl ?_ | refine kprtN_at rfl ?_ | refine kcap_at ?_ | refine klenStr_at ?_ | refine kN_iat ?_ | refine kN_fat ?_ | refine kIf_T (by first | exact rfl | exact decT (by omega) | exact notT (decF (by omega))) ?_ | refine kIf_F (by first | exact rfl | exact decF (by omega) | exact notF (decT (by omega))) ?_)
   refine kG_of (kld_at hb33 rfl ⟨rfl, rfl⟩) ?_
   refine kG_of (kld_at hbd rfl ⟨rfl, rfl⟩) ?_
   refine kcall_of cloneR_spec ?_
   rintro v w37 ⟨⟨a', n', c', rfl⟩, h37⟩
   refine kbld_of (cs := [.slice ca L.length cc, .slice a' n' c']) rfl ?_
   refine kst_of (vs := [.slice ca L.length cc, .slice a' n' c']) (h37.get hb39 (fun h => h)) rfl rfl rfl (by simp) (by simp) fun w41 h41 hs41 hb41 => ?_
   have m41 : Same w33 w41 := (h39.trans h37).trans' (h41.mono fun k _ e => .inr (by omega))
   exact fin _ w41 ca cc _ ((md.trans h33).trans m41) hb41 (hcs.same m41) (fun k f e => by have := hfk k f e; have := m41.size; omega) rfl
 ·refine knew_of fun w39 h39 hs39 hb39 => ?_
  have hb39' := h39.get hbd (fun h => h)
  repeat (first | refine kN_at ?_ | refine kB_at ?_ | refine kfld_of ?_ | refine kext_at rfl ?_ | refine kld_at hb39' rfl ?_ | refine kldN_at hb39' rfl (by omega) ?_ | refine kG_of (by first | exact rfl | omega) ?_ | refine klen_at ?_ | refine eql_at ?_ | refine neq_at ?_ | refine lss_at ?_ | refine leq_at ?_ | refine gtr_at ?_ | refine geq_at ?_ | refine add_at (by omega) (by omega) ?_ | refine sub_at (by omega) (by omega) ?_ | refine not_at ?_ | refine kO_at ?_ | refine kprt_at rfl ?_ | refine kprtN_at rfl ?_ | refine kcap_at ?_ | refine klenStr_at ?_ | refine kN_iat ?_ | refine kN_fat ?_ | refine kIf_T (by first | exact rfl | exact decT (by omega) | exact notT (decF (by omega))) ?_ | refine kIf_F (by first | exact rfl | exact decF (by omega) | exact notF (decT (by omega))) ?_)
  refine kG_of (kld_at hbd rfl ⟨rfl, rfl⟩) ?_
  refine kcall_of (cloneC_spec (hsd.same h39) (by omega)) ?_
  rintro v w33 ⟨hO, h33, hf⟩
  obtain ⟨ca, cn, cc, rfl, hcs, _⟩ := hO.is
  have hcn : cn = L.length := by
   have := hcs.1
   rw [flat_len Comp.cells 7 (fun _ => rfl)] at this
   omega
  subst hcn
  have hb33 := h33.get hb39' (fun h => h)
  have hfk : ∀ k f, ca = some ⟨k, f, none⟩ → w23.heap.size ≤ k ∧ k < w33.heap.size := fun k f e => by
   have hv : vblk (.slice ca L.length cc) k := ⟨f, _, _, by rw [e]⟩
   have h1 := hf k hv
   have h2 : w23.drew.heap.size = w23.heap.size := rfl
   exact ⟨by omega, hO.vblk_lt hv⟩
  repeat (first | refine kN_at ?_ | refine kB_at ?_ | refine kfld_of ?_ | refine kext_at rfl ?_ | refine kld_at hb33 rfl ?_ | refine kldN_at hb33 rfl (by omega) ?_ | refine kG_of (by first | exact rfl | omega) ?_ | refine klen_at ?_ | refine eql_at ?_ | refine neq_at ?_ | refine lss_at ?_ | refine leq_at ?_ | refine gtr_at ?_ | refine geq_at ?_ | refine add_at (by omega) (by omega) ?_ | refine sub_at (by omega) (by omega) ?_ | refine not_at ?_ | refine kO_at ?_ | refine kprt_at rfl ?_ | refine kprtN_at rfl ?_ | refine kcap_at ?_ | refine klenStr_at ?_ | refine kN_iat ?_ | refine kN_fat ?_ | refine kIf_T (by first | exact rfl | exact decT (by omega) | exact notT (decF (by omega))) ?_ | refine kIf_F (by first | exact rfl | exact decF (by omega) | exact notF (decT (by omega))) ?_)
  refine kG_of (kld_at hb39' rfl ⟨rfl, rfl⟩) ?_
  refine kG_of (kld_at hbd rfl ⟨rfl, rfl⟩) ?_
  refine kcall_of cloneR_spec ?_
  rintro v w37 ⟨⟨a', n', c', rfl⟩, h37⟩
  refine kbld_of (cs := [.slice ca L.length cc, .slice a' n' c']) rfl ?_
  refine kst_of (vs := [.slice ca L.length cc, .slice a' n' c']) (h37.get (h33.get hb39 (fun h => h)) (fun h => h)) rfl rfl rfl (by simp) (by simp) fun w41 h41 hs41 hb41 => ?_
  have m41 : Same w23 w41 := (((md.trans h39).trans h33).trans h37).trans' (h41.mono fun k _ e => .inr (by have h2 : w23.drew.heap.size = w23.heap.size := rfl; omega))
  have m33 : Mod (fun k => k = w23.heap.size) w33 w41 := (Mod.of_same h37).trans h41
  refine fin _ w41 ca cc _ m41 hb41 (hcs.mod m33 fun k f e ek => ?_) (fun k f e => by have := hfk k f e; have := m33.size; omega) rfl
  have h1 := hf k ⟨f, _, _, by rw [e]⟩
  have h2 : w23.drew.heap.size = w23.heap.size := rfl
  omega
end
section
attribute [local irreducible] kO kB kStr kInt kN kG kIf kfld kld kldN kst knew kmap kbld kbldS kext kcnv klenStr klen kcap kprt kprtN kbool kint kstr keq kun ksl kix kiv kta kmk kmm ksem ksemU kextf kcallV kcallM kcall kL
structure Cur (w0 : World) (o : Lab) (w : World) (b : Nat) (p : Ptrs) (S : SM) (t : Nat) : Prop where
 sp : StoreP o w b p S
 gs : GS S t
 lo : ∀ k, k < w0.heap.size → o k = none
 hi : ∀ k, w.heap.size ≤ k → o k = none
 same : Same w0 w
theorem Cur.loc {w0 : World} {o : Lab} {w w2 : World} {b : Nat} {p : Ptrs} {S : SM} {t : Nat} (h : Cur w0 o w b p S t) (m : Same w w2) : Cur w0 o w2 b p S t :=
 ⟨h.sp.same m, h.gs, h.lo, fun k hk => h.hi k (Nat.le_trans m.size hk), h.same.trans m⟩
theorem Cur.turn {w0 : World} {o : Lab} {w w' : World} {b : Nat} {p : Ptrs} {S S' : SM} {t t' : Nat} (h : Cur w0 o w b p S t) (T : Turned o w b S' w') (hG : GS S' t') : ∃ o' p', Cur w0 o' w' b p' S' t' ∧ LabEq w o o' ∧ Mod (fun k => o k ≠ none) w w' := by
 obtain ⟨o', p', hl, hP, hm, hc⟩ := T
 have hs := h.same.size
 have hm' : Mod (fun k => o k ≠ none) w w' := hm.mono fun k _ ⟨t, e, _⟩ => by rw [e]; simp
 refine ⟨o', p', ⟨hP, hG, fun k hk => by rw [hl k (by omega)]; exact h.lo k hk, hc, h.same.trans' (hm'.mono fun k _ e => .inr ?_)⟩, hl, hm'⟩
 rcases Nat.lt_or_ge k w0.heap.size with hk | hk
 ·exact absurd (h.lo k hk) e
 ·exact hk
theorem Just.len {L : List (Int × Int)} {P : Nat → Int → Prop} (h : Just L P) {l : List (Int × Int)} (hn : l.Nodup) (hl : ∀ (i : Nat) (g : Int), ((i : Int), g) ∈ l ↔ P i g) (hp : ∀ e ∈ l, 0 ≤ e.1) : L.length = l.length := by
 refine ((List.perm_ext_iff_of_nodup h.1 hn).2 fun e => ?_).length_eq
 rw [h.2.2 e]
 constructor
 ·rintro ⟨i, g, rfl, hP⟩; exact (hl i g).2 hP
 ·intro he
  have h0 := hp e he
  refine ⟨e.1.toNat, e.2, ?_, ?_⟩
  ·rw [Int.toNat_of_nonneg h0]
  ·rw [← hl, Int.toNat_of_nonneg h0]; exact he
end
section
def f3_6 (x0 x1 x2 x7 x9 x10 : Value) (J8 : Value → Value → World → Prop) (Q : PQ) (w : World) : Prop :=
 kint .i64 .add x10 (.int .i64 1) fun v50 =>
 J8 x9 v50 w
def f3_5 (x0 x1 x2 x7 x9 x10 x11 : Value) (J8 : Value → Value → World → Prop) (Q : PQ) (w : World) : Prop :=
 kldN 2 x11 w fun v45 =>
 kbldS [.int .i64 0, .int .i64 0] 1 [(0, 2, v45)] 37 w fun v46 w47 =>
 ksem Tryz.prog (Builtin.append_ #[35, 35] 0 #[x9, v46]) w47 fun v48 w49 =>
 f3_6 x0 x1 x2 x7 v48 x10 J8 Q w49
def f3_4 (x0 x1 x2 x7 x9 x10 : Value) (J8 : Value → Value → World → Prop) (Q : PQ) (w : World) : Prop :=
 kix (some (.slice 43)) (some 1) x0 x10 fun v30 =>
 kld v30 w fun v31 =>
 kint .u32 .and v31 (.int .u32 255) fun v32 =>
 kint .i64 .mul (.int .i64 100) x10 fun v33 =>
 kcall Tryz.prog 11 #[v32, v33] w fun v34 w35 =>
 kcall Tryz.prog 10 #[x7, v34] w35 fun v36 w37 =>
 kext v36 0 fun v38 =>
 kext v36 1 fun v39 =>
 knew #[.int .i64 0, .int .i64 0] 37 w37 fun v40 w41 =>
 kst 2 v40 v38 w41 fun w42 =>
 keq Tryz.prog .neq 27 false true v39 .nilIface w42 fun v43 w44 =>
 kB v43 fun b51 => kIf b51
 (Q (.bool false) w44)
 (f3_5 x0 x1 x2 x7 x9 x10 v40 J8 Q w44)
def f3_11 (x0 x2 x7 x9 x13 x14 : Value) (J16 : Value → World → Prop) (Q : PQ) (w : World) : Prop :=
 kint .i64 .add x14 (.int .i64 1) fun v77 =>
 J16 v77 w
def f3_12 (x0 x2 x7 x9 x13 x14 x15 x16 : Value) (J16 : Value → World → Prop) (Q : PQ) (w : World) : Prop :=
 kfld 11 x15 fun v78 =>
 kld v78 w fun v79 =>
 kcnv .u64 v79 fun v80 =>
 kint .u64 .rem v80 (.int .u64 8) fun v81 =>
 kcnv .i64 v81 fun v82 =>
 kfld 13 x15 fun v83 =>
 kld v83 w fun v84 =>
 kbld [.int .i64 0, .int .i64 0, .int .i64 0, .int .i64 0] [(0, 1, v84)] fun v85 =>
 kbld [.int .i64 0, .int .i64 0, .int .i64 0, .int .i64 0, .int .i64 0, .int .i64 0] [(0, 1, v82), (1, 4, v85)] fun v86 =>
 knew #[.int .i64 0, .int .i64 0, .int .i64 0, .int .i64 0, .int .i64 0, .int .i64 0] 47 w fun v87 w88 =>
 kst 6 v87 v86 w88 fun w89 =>
 kfld 0 x15 fun v90 =>
 kld v90 w89 fun v91 =>
 kint .i64 .eql v91 (.int .i64 2) fun v92 =>
 kB v92 fun b129 => kIf b129
 (kix (some (.slice 37)) (some 2) x9 x16 fun v93 =>
 kldN 2 v93 w89 fun v94 =>
 kcall Tryz.prog 12 #[x7, v94] w89 fun v95 w96 =>
 f3_11 x0 x2 x7 x9 x13 x14 J16 Q w96)
 (kint .i64 .eql v91 (.int .i64 3) fun v97 =>
 kB v97 fun b128 => kIf b128
 (kix (some (.slice 37)) (some 2) x9 x16 fun v98 =>
 kldN 2 v98 w89.drew fun v99 =>
 kG (w89.drew = w89.drew) <|
 kldN 6 v87 w89.drew fun v100 =>
 kG (w89.drew = w89.drew) <|
 kcall Tryz.prog 13 #[x7, v99, v100] w89.drew fun v101 w102 =>
 f3_11 x0 x2 x7 x9 x13 x14 J16 Q w102)
 (kint .i64 .eql v91 (.int .i64 4) fun v103 =>
 kB v103 fun b127 => kIf b127
 (kix (some (.slice 37)) (some 2) x9 x16 fun v104 =>
 kldN 2 v104 w89.drew fun v105 =>
 kG (w89.drew = w89.drew) <|
 kfld 0 v87 fun v106 =>
 kld v106 w89.drew fun v107 =>
 kG (w89.drew = w89.drew) <|
 kcall Tryz.prog 14 #[x7, v105, v107] w89.drew fun v108 w109 =>
 f3_11 x0 x2 x7 x9 x13 x14 J16 Q w109)
 (kint .i64 .eql v91 (.int .i64 5) fun v110 =>
 kB v110 fun b126 => kIf b126
 (kix (some (.slice 37)) (some 2) x9 x16 fun v111 =>
 kldN 2 v111 w89.drew fun v112 =>
 kG (w89.drew = w89.drew) <|
 kldN 6 v87 w89.drew fun v113 =>
 kG (w89.drew = w89.drew) <|
 kcall Tryz.prog 15 #[x7, v112, v113] w89.drew fun v114 w115 =>
 f3_11 x0 x2 x7 x9 x13 x14 J16 Q w115)
 (kint .i64 .eql v91 (.int .i64 6) fun v116 =>
 kB v116 fun b125 => kIf b125
 (kix (some (.slice 37)) (some 2) x9 x16 fun v117 =>
 kldN 2 v117 w89.drew fun v118 =>
 kG (w89.drew = w89.drew) <|
 kfld 0 v87 fun v119 =>
 kld v119 w89.drew fun v120 =>
 kG (w89.drew = w89.drew) <|
 kfld 13 x15 fun v121 =>
 kld v121 w89.drew fun v122 =>
 kG (w89.drew = w89.drew) <|
 kcall Tryz.prog 16 #[x7, v118, v120, .int .i64 0, v122, x14] w89.drew fun v123 w124 =>
 f3_11 x0 x2 x7 x9 x13 x14 J16 Q w124)
 (f3_11 x0 x2 x7 x9 x13 x14 J16 Q w89)))))
def f3_10 (x0 x2 x7 x9 x13 x14 : Value) (J16 : Value → World → Prop) (Q : PQ) (w : World) : Prop :=
 kix (some (.slice 49)) (some 16) x2 x14 fun v63 =>
 kldN 16 v63 w fun v64 =>
 knew #[.int .i64 0, .int .i64 0, .int .i64 0, .int .i64 0, .slice none 0 0, .int .i64 0, .int .i64 0, .int .i64 0, .int .i64 0, .int .i64 0, .int .i64 0, .int .i64 0, .int .i64 0, .int .i64 0, .int .u32 0, .int .u32 0] 49 w fun v65 w66 =>
 kst 16 v65 v64 w66 fun w67 =>
 kfld 1 v65 fun v68 =>
 kld v68 w67 fun v69 =>
 kcnv .u64 v69 fun v70 =>
 klen x9 fun v71 =>
 kcnv .u64 v71 fun v73 =>
 kint .u64 .rem v70 v73 fun v74 =>
 kcnv .i64 v74 fun v75 =>
 kint .i64 .eql v75 x13 fun v76 =>
 kB v76 fun b130 => kIf b130
 (f3_11 x0 x2 x7 x9 x13 x14 J16 Q w67)
 (f3_12 x0 x2 x7 x9 x13 x14 v65 v75 J16 Q w67)
def f3_13 (x0 x7 x9 x13 : Value) (Q : PQ) (w : World) : Prop :=
 kix (some (.slice 37)) (some 2) x9 x13 fun v131 =>
 kldN 2 v131 w fun v132 =>
 kcall Tryz.prog 17 #[x7, v132] w fun v133 w134 =>
 kext v133 0 fun v135 =>
 kext v133 1 fun v136 =>
 kix (some (.slice 37)) (some 2) x9 x13 fun v137 =>
 kldN 2 v137 w134 fun v138 =>
 kcall Tryz.prog 18 #[x7, v138] w134 fun v139 w140 =>
 kext v139 0 fun v141 =>
 kext v139 1 fun v142 =>
 keq Tryz.prog .eql 27 false true v136 .nilIface w140 fun v143 w144 =>
 kB v143 fun b145 => kIf b145
 (keq Tryz.prog .eql 27 false true v142 .nilIface w144 fun v146 w147 =>
 kB v146 fun b148 => kIf b148
 (kix (some (.slice 43)) (some 1) x0 x13 fun v149 =>
 kld v149 w147 fun v150 =>
 kint .u32 .and v150 (.int .u32 255) fun v151 =>
 kint .u32 .eql v141 v151 fun v152 =>
 kB v152 fun b153 => kIf b153
 (kix (some (.slice 43)) (some 1) x0 x13 fun v154 =>
 kld v154 w147 fun v155 =>
 kint .u32 .and v155 (.int .u32 255) fun v156 =>
 kint .i64 .mul (.int .i64 100) x13 fun v157 =>
 kcall Tryz.prog 11 #[v156, v157] w147 fun v158 w159 =>
 kcall Tryz.prog 19 #[v135, v158] w159 fun v160 w161 =>
 Q v160 w161)
 (Q (.bool false) w147))
 (Q (.bool false) w147))
 (Q (.bool false) w144)
def f3_9 (x0 x2 x7 x9 x13 x14 x87 : Value) (J16 : Value → World → Prop) (Q : PQ) (w : World) : Prop :=
 kB x87 fun b162 => kIf b162
 (f3_10 x0 x2 x7 x9 x13 x14 J16 Q w)
 (f3_13 x0 x7 x9 x13 Q w)
def f3_8 (x14 x0 x2 x7 x9 x13 : Value) (J16 : Value → World → Prop) (Q : PQ) (w : World) : Prop :=
 klen x2 fun v58 =>
 kint .i64 .lss x14 v58 fun v60 =>
 kB v60 fun b61 => kIf b61
 (kint .i64 .lss x14 (.int .i64 150) fun v62 =>
 f3_9 x0 x2 x7 x9 x13 x14 v62 J16 Q w)
 (f3_9 x0 x2 x7 x9 x13 x14 (.bool false) J16 Q w)
def f3_7 (x0 x1 x2 x7 x9 : Value) (Q : PQ) (w : World) : Prop :=
 kcnv .u64 x1 fun v52 =>
 klen x9 fun v53 =>
 kcnv .u64 v53 fun v55 =>
 kint .u64 .rem v52 v55 fun v56 =>
 kcnv .i64 v56 fun v57 =>
 kL fun (I : Value → World → Prop) (μ : Value → World → Nat) => I (.int .i64 0) w ∧ ∀ (x14 : Value) (w1 : World), I x14 w1 →
 f3_8 x14 x0 x2 x7 x9 v57 (fun y14 w2 => I y14 w2 ∧ μ y14 w2 < μ x14 w1) Q w1
def f3_3 (x9 x10 x0 x1 x2 x7 : Value) (J8 : Value → Value → World → Prop) (Q : PQ) (w : World) : Prop :=
 klen x0 fun v27 =>
 kint .i64 .lss x10 v27 fun v29 =>
 kB v29 fun b163 => kIf b163
 (f3_4 x0 x1 x2 x7 x9 x10 J8 Q w)
 (f3_7 x0 x1 x2 x7 x9 Q w)
def f3_2 (x0 x1 x2 x7 : Value) (Q : PQ) (w : World) : Prop :=
 kbldS [.int .i64 0, .int .i64 0] 0 [] 37 w fun v25 w26 =>
 kL fun (I : Value → Value → World → Prop) (μ : Value → Value → World → Nat) => I v25 (.int .i64 0) w26 ∧ ∀ (x9 x10 : Value) (w1 : World), I x9 x10 w1 →
 f3_3 x9 x10 x0 x1 x2 x7 (fun y9 y10 w2 => I y9 y10 w2 ∧ μ y9 y10 w2 < μ x9 x10 w1) Q w1
def f3_1 (x0 x1 x2 x7 x8 x44 : Value) (Q : PQ) (w : World) : Prop :=
 kB x44 fun b164 => kIf b164
 (keq Tryz.prog .eql 27 false true x8 .nilIface w fun v23 w24 =>
 Q v23 w24)
 (f3_2 x0 x1 x2 x7 Q w)
def f3_0 (x0 x1 x2 : Value) (Q : PQ) (w : World) : Prop :=
 kcall Tryz.prog 9 #[] w fun v4 w5 =>
 kcall Tryz.prog 8 #[v4, .int .i64 64] w5 fun v6 w7 =>
 kext v6 0 fun v8 =>
 kext v6 1 fun v9 =>
 keq Tryz.prog .eql 25 false true v8 (.pointer none) w7 fun v10 w11 =>
 kB v10 fun b12 => kIf (!b12)
 (keq Tryz.prog .neq 27 false true v9 .nilIface w11 fun v13 w14 =>
 kB v13 fun b15 => kIf (!b15)
 (klen x0 fun v16 =>
 kint .i64 .eql v16 (.int .i64 0) fun v18 =>
 kB v18 fun b19 => kIf (!b19)
 (klen x0 fun v20 =>
 kint .i64 .gtr v20 (.int .i64 60) fun v22 =>
 f3_1 x0 x1 x2 v8 v9 v22 Q w14)
 (f3_1 x0 x1 x2 v8 v9 (.bool true) Q w14))
 (f3_1 x0 x1 x2 v8 v9 (.bool true) Q w14))
 (f3_1 x0 x1 x2 v8 v9 (.bool true) Q w11)
def f3 (x0 x1 x2 : Value) (Q : PQ) (w : World) : Prop :=
 kcall Tryz.prog 7 #[] w fun v1 w2 =>
 kun .not (some .bool) v1 fun v3 =>
 kB v3 fun b165 => kIf b165
 (Q (.bool false) w2)
 (f3_0 x0 x1 x2 Q w2)
end
section
attribute [local irreducible] kO kB kStr kInt kN kG kIf kfld kld kldN kst knew kmap kbld kbldS kext kcnv klenStr klen kcap kprt kprtN kbool kint kstr keq kun ksl kix kiv kta kmk kmm ksem ksemU kextf kcallV kcallM kcall kL
deriving instance DecidableEq for Part
theorem wf_i64 {n : Int} (h : I64 n) : (Lit.int .i64 n).wf = true := by
 simp [Lit.wf, IntKind.min, IntKind.max, IntKind.signed, IntKind.bits]
 exact h
theorem cellsInt : Tryz.prog.cellsOf 3 = 1 := by kernel_rfl
theorem cellsArr : Tryz.prog.cellsOf 45 = 4 := by kernel_rfl
theorem cellsPart : Tryz.prog.cellsOf 47 = 6 := by kernel_rfl
theorem kl_int {n : Int} (h : I64 n) (d : Nat) : Tryz.prog.keyLits (d + 1) 3 [.int .i64 n] = some [.int .i64 n] := by
 unfold Program.keyLits
 simp only [Tryz.underlying3]
 rw [if_pos ⟨trivial, wf_i64 h⟩]
theorem kl_arr {a b c e : Int} (h1 : I64 a) (h2 : I64 b) (h3 : I64 c) (h4 : I64 e) (d : Nat) :
  Tryz.prog.keyLits (d + 2) 45 [.int .i64 a, .int .i64 b, .int .i64 c, .int .i64 e] = some [.int .i64 a, .int .i64 b, .int .i64 c, .int .i64 e] := by
 unfold Program.keyLits
 simp only [Tryz.underlying45, cellsInt, cellsArr]
 rw [if_pos (by rfl), show List.range 4 = [0, 1, 2, 3] from rfl]
 simp [kl_int h1, kl_int h2, kl_int h3, kl_int h4]
theorem kl_part {p : Part} (h : p.ok) (d : Nat) :
  Tryz.prog.keyLits (d + 3) 47 p.cells = some [.int .i64 p.comp, .int .i64 p.v0, .int .i64 p.v1, .int .i64 p.v2, .int .i64 p.v3, .int .i64 p.tick] := by
 obtain ⟨h1, h2, h3, h4, h5, h6⟩ := h
 unfold Program.keyLits
 simp only [Tryz.underlying47, cellsPart]
 rw [if_pos ⟨by rfl, by kernel_rfl⟩]
 simp [cellsInt, cellsArr, Part.cells, kl_int h1, kl_int h6, kl_arr h2 h3 h4 h5]
theorem keyPart : Tryz.prog.keyTypeAt 10 47 = true := by kernel_rfl
theorem guardPart : Tryz.prog.eqGuardType Tryz.prog.depth 47 = false := by kernel_rfl
theorem formPart (p : Part) : Value.formed Tryz.prog 47 (.agg p.cells.toArray) = true := by
 unfold Value.formed
 simp only [Tryz.underlying47, cellsPart]
 rfl
end
section
attribute [local irreducible] kO kB kStr kInt kN kG kIf kfld kld kldN kst knew kmap kbld kbldS kext kcnv klenStr klen kcap kprt kprtN kbool kint kstr keq kun ksl kix kiv kta kmk kmm ksem ksemU kextf kcallV kcallM kcall kL
def pa (c v : Int) : Part := ⟨c, v, 0, 0, 0, 0⟩
def l1 : List Part := [pa 1 0, pa 0 5]
def l2 : List Part := [pa 0 0, pa 1 0]
end
section
attribute [local irreducible] kO kB kStr kInt kN kG kIf kfld kld kldN kst knew kmap kbld kbldS kext kcnv klenStr klen kcap kprt kprtN kbool kint kstr keq kun ksl kix kiv kta kmk kmm ksem ksemU kextf kcallV kcallM kcall kL
end
section
attribute [local irreducible] kO kB kStr kInt kN kG kIf kfld kld kldN kst knew kmap kbld kbldS kext kcnv klenStr klen kcap kprt kprtN kbool kint kstr keq kun ksl kix kiv kta kmk kmm ksem ksemU kextf kcallV kcallM kcall kL
end
section
attribute [local irreducible] kO kB kStr kInt kN kG kIf kfld kld kldN kst knew kmap kbld kbldS kext kcnv klenStr klen kcap kprt kprtN kbool kint kstr keq kun ksl kix kiv kta kmk kmm ksem ksemU kextf kcallV kcallM kcall kL
end
section
attribute [local irreducible] kO kB kStr kInt kN kG kIf kfld kld kldN kst knew kmap kbld kbldS kext kcnv klenStr klen kcap kprt kprtN kbool kint kstr keq kun ksl kix kiv kta kmk kmm ksem ksemU kextf kcallV kcallM kcall kL
theorem with_turns {w : World} {bc : Nat} {q : Part} (hb : blk w bc = some (.cells q.cells.toArray 47)) {L : List Part} (hlen : L.length ≤ 1000000) :
  Turns w bc 60 #[.pointer (some ⟨bc, 0, none⟩)] L (L ++ [q]) := by
 intro w1 sv hsz hbc hv hO
 show Meets Tryz.prog 60 #[sv, .pointer (some ⟨bc, 0, none⟩)] w1 _
 refine f60_ok ?_
 unfold f60
 refine kldN_at (cs := q.cells) (hbc.trans hb) rfl (by omega) ?_
 refine kbldS_of (cs := q.cells) rfl fun w3 h3 hs3 hb3 => ?_
 refine ksem_append apParts (by omega) (hO.same h3) (Src.ofSlIs (hk := slPart_is.choose_spec) 1 (SlIs.blk hb3 rfl) (ones_parts [q])) (by rw [flat_len Part.cells 6 (fun _ => rfl)]; simp [Part.cells]; omega) (by rw [flat_len Part.cells 6 (fun _ => rfl)]; simp [Part.cells]; omega) ?_
 intro v' w' ho hm hf
 have h3s := h3.size
 refine ⟨?_, (Mod.of_same h3).trans hm, fun k hk => (hf k hk).imp id fun h => by omega⟩
 rw [List.flatMap_append]
 simpa using ho
theorem listF_with {m c : Nat} (hc : c < 32) : ∀ x, x ∈ listF (m ||| 2 ^ c) ↔ x ∈ listF m ∨ x = c := fun x => by
 rw [listF_mem, listF_mem, Nat.testBit_or, Nat.testBit_two_pow, Bool.or_eq_true, decide_eq_true_eq]
 constructor
 ·rintro ⟨h1, h2 | h2⟩
  ·exact .inl ⟨h1, h2⟩
  ·exact .inr h2.symm
 ·rintro (⟨h1, h2⟩ | rfl)
  ·exact ⟨h1, .inl h2⟩
  ·exact ⟨hc, .inr rfl⟩
def insP (q : Part) (L : List Part) : List Part := (L.filter fun x => decide (x.comp < q.comp)) ++ q :: (L.filter fun x => decide (q.comp < x.comp))
theorem insP_perm {q : Part} {L : List Part} (h : ∀ x ∈ L, x.comp ≠ q.comp) : (L ++ [q]).Perm (insP q L) := by
 have h1 : ((L.filter fun x => decide (x.comp < q.comp)) ++ (L.filter fun x => !decide (x.comp < q.comp))).Perm L := List.filter_append_perm _ _
 have h2 : (L.filter fun x => !decide (x.comp < q.comp)) = L.filter fun x => decide (q.comp < x.comp) := by
  apply List.filter_congr
  intro x hx
  have := h x hx
  simp only [← decide_not, decide_eq_decide]
  omega
 rw [h2] at h1
 unfold insP
 refine (h1.symm.append_right [q]).trans ?_
 rw [List.append_assoc]
 exact List.Perm.append_left _ (List.perm_append_comm.trans (by simp))
end
section
theorem insP_comps {L : List Part} {m c : Nat} (hc : c < 32) {q : Part} (hq : q.comp = (c : Int)) (hL : L.map (·.comp) = (listF m).map (fun c : Nat => (c : Int))) (hno : c ∉ listF m) : (insP q L).map (·.comp) = (listF (m ||| 2 ^ c)).map (fun c : Nat => (c : Int)) := by
 have hmem : ∀ x ∈ L, x.comp ≠ q.comp := fun x hx e => by
  have h1 : x.comp ∈ (listF m).map (fun c : Nat => (c : Int)) := hL ▸ List.mem_map.2 ⟨x, hx, rfl⟩
  obtain ⟨d, hd, e2⟩ := List.mem_map.1 h1
  have : d = c := by omega
  subst this; exact hno hd
 have hp := insP_perm hmem
 have hsL : L.Pairwise (fun x y => x.comp ≤ y.comp) := by
  have : (L.map (·.comp)).Pairwise (fun x y : Int => x ≤ y) := by
   rw [hL, List.pairwise_map]
   exact (listF_sorted m).imp (fun h => by omega)
  rwa [List.pairwise_map] at this
 refine List.Perm.eq_of_pairwise (le := fun x y : Int => x ≤ y) (fun a b _ _ h1 h2 => by omega) ?_ ?_ ?_
 ·rw [List.pairwise_map]
  unfold insP
  rw [List.pairwise_append]
  refine ⟨hsL.filter _, ?_, ?_⟩
  ·rw [List.pairwise_cons]
   refine ⟨fun x hx => ?_, hsL.filter _⟩
   have := (List.mem_filter.1 hx).2
   simp at this; omega
  ·intro x hx y hy
   have h1 := (List.mem_filter.1 hx).2
   simp at h1
   rcases List.mem_cons.1 hy with rfl | hy
   ·omega
   ·have h2 := (List.mem_filter.1 hy).2
    simp at h2; omega
 ·rw [List.pairwise_map]; exact (listF_sorted _).imp (fun h => by omega)
 ·have hn2 : ((listF (m ||| 2 ^ c)).map (fun c : Nat => (c : Int))).Nodup := by
   unfold List.Nodup
   rw [List.pairwise_map]
   exact (listF_nodup _).imp (fun h e => h (by omega))
  have hn1 : ((L ++ [q]).map (·.comp)).Nodup := by
   rw [List.map_append, hL, List.nodup_append]
   refine ⟨?_, by simp, ?_⟩
   ·unfold List.Nodup
    rw [List.pairwise_map]
    exact (listF_nodup _).imp (fun h e => h (by omega))
   ·intro a ha b hb e
    obtain ⟨d, hd, rfl⟩ := List.mem_map.1 ha
    simp at hb
    subst hb
    have : d = c := by omega
    subst this; exact hno hd
  refine (hp.map _).symm.trans ((List.perm_ext_iff_of_nodup hn1 hn2).2 fun a => ?_)
  rw [List.map_append, hL, List.mem_append]
  constructor
  ·rintro (h | h)
   ·obtain ⟨d, hd, rfl⟩ := List.mem_map.1 h
    exact List.mem_map.2 ⟨d, (listF_with hc d).2 (.inl hd), rfl⟩
   ·simp at h
    subst h
    exact List.mem_map.2 ⟨c, (listF_with hc c).2 (.inr rfl), hq.symm⟩
  ·intro h
   obtain ⟨d, hd, rfl⟩ := List.mem_map.1 h
   rcases (listF_with hc d).1 hd with h | rfl
   ·exact .inl (List.mem_map.2 ⟨d, h, rfl⟩)
   ·right; simp [hq]
end
section
attribute [local irreducible] kO kB kStr kInt kN kG kIf kfld kld kldN kst knew kmap kbld kbldS kext kcnv klenStr klen kcap kprt kprtN kbool kint kstr keq kun ksl kix kiv kta kmk kmm ksem ksemU kextf kcallV kcallM kcall kL
theorem insert_at {o : Lab} {w : World} (hD : DeAt w) {b : Nat} {p : Ptrs} {S : SM} (h : StoreP o w b p S) (hDo : o 9 = none) {t : Nat} (hG : GS S t) (ht : t ≤ 10000) {i : Nat} {g : Int} (hg : S.gens[i]? = some (g, true)) {q : Part} (hq : FitsP S.cs q) (hno : ∀ x ∈ partsOf S i, x.comp ≠ q.comp) :
  Meets Tryz.prog 13 #[ptrV b, entV i g, .agg q.cells.toArray] w fun v w' => v = .nilIface ∧ ∃ S', GS S' (t + 1) ∧ Went S S' (insP q (partsOf S i)) i ∧ Turned o w b S' w' := by
 obtain ⟨n, r, hsp, hn, hnm, hcol, hpe, hce, hmap, hfit, hmk, hmlt, hpc⟩ := parts_ok h hG hg
 obtain ⟨c, hqc, hcl, hqcl⟩ := id hq
 have hcs := h.good.1
 have hp16 : 2 ^ S.cs.length ≤ 2 ^ 16 := Nat.pow_le_pow_right (by omega) hcs
 have hml := hG.ml
 have hc32 : c < 32 := by omega
 have hcn : c ∉ listF S.masks[n] := fun hm => by
  have h1 : (c : Int) ∈ (partsOf S i).map (·.comp) := hmap ▸ List.mem_map.2 ⟨c, hm, rfl⟩
  obtain ⟨x, hx, e⟩ := List.mem_map.1 h1
  exact hno x hx (by rw [e, hqc])
 have hcm : c ∉ compsM S.masks n := hce ▸ hcn
 have hLc := insP_comps hc32 hqc hmap hcn
 have hperm := insP_perm hno
 have hlen : (partsOf S i).length ≤ 32 := by
  have := congrArg List.length hmap
  simp only [List.length_map] at this
  have := listF_len S.masks[n]
  omega
 have hfit' : ∀ x ∈ insP q (partsOf S i), FitsP S.cs x := fun x hx => by
  have := hperm.mem_iff.2 hx
  rcases List.mem_append.1 this with h | h
  ·exact hfit x h
  ·simp at h; subst h; exact hq
 have hm'lt : S.masks[n] ||| 2 ^ c < 2 ^ S.cs.length := Nat.or_lt_two_pow hmlt (Nat.pow_lt_pow_right (by omega) hcl)
 have hm' := comps_mask hcs hfit' hm'lt hLc
 rw [ptrV]
 refine f13_ok ?_
 unfold f13
 refine knew_of fun w2 hm2 hs2 hb2 => ?_
 have hb2 : blk w2 w.heap.size = some (.cells #[.int .i64 i, .int .i64 g] 37) := hb2
 refine knew_of fun w4 hm4 hs4 hb4 => ?_
 have hb4 : blk w4 w2.heap.size = some (.cells q.cells.toArray 47) := hb4
 have he4 := hm4.get hb2 (fun h => h)
 have m4 : Same w w4 := hm2.trans hm4
 have hP4 := h.cut m4
 have hcutn : ∀ k, w.heap.size ≤ k → cutL o w.heap.size k = none := fun k hk => cutL_none hk
 have hDo0 : cutL o w.heap.size 9 = none := by
  unfold cutL; split
  ·exact hDo
  ·rfl
 repeat (first | refine kN_at ?_ | refine kB_at ?_ | refine kfld_of ?_ | refine kext_at rfl ?_ | refine kld_at he4 rfl ?_ | refine kldN_at he4 rfl (by omega) ?_ | refine kG_of (by first | exact rfl | omega) ?_ | refine klen_at ?_ | refine eql_at ?_ | refine neq_at ?_ | refine lss_at ?_ | refine leq_at ?_ | refine gtr_at ?_ | refine geq_at ?_ | refine add_at (by omega) (by omega) ?_ | refine sub_at (by omega) (by omega) ?_ | refine not_at ?_ | refine kO_at ?_ | refine kprt_at rfl ?_ | refine kprtN_at rfl ?_ | refine kcap_at ?_ | refine klenStr_at ?_ | refine kN_iat ?_ | refine kN_fat ?_ | refine kIf_T (by first | exact rfl | exact decT (by omega) | exact notT (decF (by omega))) ?_ | refine kIf_F (by first | exact rfl | exact decF (by omega) | exact notF (decT (by omega))) ?_)
 refine kcall_of (sSpot_spec hP4 hg hsp) ?_
 rintro v w7 ⟨rfl, h7⟩
 repeat (first | refine kN_at ?_ | refine kB_at ?_ | refine kfld_of ?_ | refine kext_at rfl ?_ | refine kG_of (by first | exact rfl | omega) ?_ | refine klen_at ?_ | refine eql_at ?_ | refine neq_at ?_ | refine lss_at ?_ | refine leq_at ?_ | refine gtr_at ?_ | refine geq_at ?_ | refine add_at (by omega) (by omega) ?_ | refine sub_at (by omega) (by omega) ?_ | refine not_at ?_ | refine kO_at ?_ | refine kprt_at rfl ?_ | refine kprtN_at rfl ?_ | refine kcap_at ?_ | refine klenStr_at ?_ | refine kN_iat ?_ | refine kN_fat ?_ | refine kIf_T (by first | exact rfl | exact decT (by omega) | exact notT (decF (by omega))) ?_ | refine kIf_F (by first | exact rfl | exact decF (by omega) | exact notF (decT (by omega))) ?_)
 refine knew_of fun w11 h11 hs11 hb11 => ?_
 refine kst_of (vs := [natV n, natV r]) hb11 rfl rfl rfl (by simp) (by simp) fun w12 h12 hs12 hb12 => ?_
 have hb12 : blk w12 w7.heap.size = some (.cells #[.int .i64 n, .int .i64 r] 120) := hb12
 have hsz7 := h7.size
 have m12 : Same w4 w12 := (h7.trans h11).trans' (h12.mono fun k _ e => .inr (by omega))
 rw [keq_nil_nil' ifErr]
 refine kB_at ?_
 refine kIf_F rfl ?_
 have hp12 := m12.get hb4 (fun h => h)
 refine kldN_at (cs := q.cells) hp12 rfl (by omega) ?_
 refine kcall_of (sFits_spec (hP4.same m12) q hq) ?_
 rintro v w17 ⟨rfl, h17⟩
 refine not_at ?_
 refine kB_at ?_
 refine kIf_F rfl ?_
 have m17 : Same w4 w17.drew := (m12.trans h17).trans (Mod.refl (fun _ => False) _).drew
 have hp17 : blk w17.drew w2.heap.size = _ := h17.get hp12 (fun h => h)
 have hb17 : blk w17.drew w7.heap.size = _ := h17.get hb12 (fun h => h)
 have he17 := m17.get he4 (fun h => h)
 have hsz17 : w12.heap.size ≤ w17.drew.heap.size := h17.size
 generalize w17.drew = wa at *
 have hPa := hP4.same m17
 have hba := hPa.here
 obtain ⟨ta, tc, et, hts⟩ := hPa.ptab hn
 rw [et] at hba
 have hT := hPa.tab n hn
 obtain ⟨q1, rv, bm, q2, q3, q4, q5, q6, q7⟩ := id hT
 repeat (first | refine kN_at ?_ | refine kB_at ?_ | refine kfld_of ?_ | refine kext_at rfl ?_ | refine kld_at hba rfl ?_ | refine kld_at hb17 rfl ?_ | refine kldN_at hba rfl (by omega) ?_ | refine kldN_at hb17 rfl (by omega) ?_ | refine kG_of (by first | exact rfl | omega) ?_ | refine klen_at ?_ | refine eql_at ?_ | refine neq_at ?_ | refine lss_at ?_ | refine leq_at ?_ | refine gtr_at ?_ | refine geq_at ?_ | refine add_at (by omega) (by omega) ?_ | refine sub_at (by omega) (by omega) ?_ | refine not_at ?_ | refine kO_at ?_ | refine kprt_at rfl ?_ | refine kprtN_at rfl ?_ | refine kcap_at ?_ | refine klenStr_at ?_ | refine kN_iat ?_ | refine kN_fat ?_ | refine kIf_T (by first | exact rfl | exact decT (by omega) | exact notT (decF (by omega))) ?_ | refine kIf_F (by first | exact rfl | exact decF (by omega) | exact notF (decT (by omega))) ?_)
 have ele : (List.range S.tabs.length).length = S.tabs.length := List.length_range
 refine kixld_of (F := fun i => ptrV (p.pt i)) (c := tc) (l := List.range S.tabs.length) hts (show n < (List.range S.tabs.length).length by omega) rfl ?_ |> fun h => by rw [ele] at h; exact h
 rw [List.getElem_range, ptrV]
 refine kG_of rfl ?_
 repeat (first | refine kN_at ?_ | refine kB_at ?_ | refine kfld_of ?_ | refine kext_at rfl ?_ | refine kld_at q2 rfl ?_ | refine kldN_at q2 rfl (by omega) ?_ | refine kG_of (by first | exact rfl | omega) ?_ | refine klen_at ?_ | refine eql_at ?_ | refine neq_at ?_ | refine lss_at ?_ | refine leq_at ?_ | refine gtr_at ?_ | refine geq_at ?_ | refine add_at (by omega) (by omega) ?_ | refine sub_at (by omega) (by omega) ?_ | refine not_at ?_ | refine kO_at ?_ | refine kprt_at rfl ?_ | refine kprtN_at rfl ?_ | refine kcap_at ?_ | refine klenStr_at ?_ | refine kN_iat ?_ | refine kN_fat ?_ | refine kIf_T (by first | exact rfl | exact decT (by omega) | exact notT (decF (by omega))) ?_ | refine kIf_F (by first | exact rfl | exact decF (by omega) | exact notF (decT (by omega))) ?_)
 refine kld_of (v := .int .i64 c) hp17 (by simp [Part.cells, hqc]) ?_
 refine kG_of rfl ?_
 have hne : ∀ x ∈ compsM S.masks n, (x : Int) ≠ (c : Int) := fun x hx e => hcm (by
  have : x = c := by omega
  exact this ▸ hx)
 refine klook_of Tryz.underlying126 Tryz.underlying3 zCol q6 (r := none) (by rw [lk_none (fun c => ptrV (p.pc n c)) c _ hne]) ?_
 refine kG_of rfl ?_
 rw [keq_ptr_nil' ptCol]
 refine kG_of rfl ?_
 refine kB_at ?_
 refine kIf_F rfl ?_
 unfold f13_0
 repeat (first | refine kN_at ?_ | refine kB_at ?_ | refine kfld_of ?_ | refine kext_at rfl ?_ | refine kld_at hba rfl ?_ | refine kld_at hb17 rfl ?_ | refine kldN_at hba rfl (by omega) ?_ | refine kldN_at hb17 rfl (by omega) ?_ | refine kG_of (by first | exact rfl | omega) ?_ | refine klen_at ?_ | refine eql_at ?_ | refine neq_at ?_ | refine lss_at ?_ | refine leq_at ?_ | refine gtr_at ?_ | refine geq_at ?_ | refine add_at (by omega) (by omega) ?_ | refine sub_at (by omega) (by omega) ?_ | refine not_at ?_ | refine kO_at ?_ | refine kprt_at rfl ?_ | refine kprtN_at rfl ?_ | refine kcap_at ?_ | refine klenStr_at ?_ | refine kN_iat ?_ | refine kN_fat ?_ | refine kIf_T (by first | exact rfl | exact decT (by omega) | exact notT (decF (by omega))) ?_ | refine kIf_F (by first | exact rfl | exact decF (by omega) | exact notF (decT (by omega))) ?_)
 refine kld_of (v := .int .i64 c) hp17 (by simp [Part.cells, hqc]) ?_
 refine kG_of rfl ?_
 have hPd := hPa.same (Mod.refl (fun _ => False) wa).drew
 have hed : blk wa.drew w.heap.size = _ := he17
 have hpd : blk wa.drew w2.heap.size = _ := hp17
 have m17 : Same w4 wa.drew := m17.trans (Mod.refl (fun _ => False) wa).drew
 have hsz17 : w12.heap.size ≤ wa.drew.heap.size := hsz17
 generalize wa.drew = wd at *
 refine kcall_of (withAt_spec hPd.atlas n hnm c hcl (by omega)) ?_
 rintro v w32 ⟨rfl, o2, hl2, hA2, hm32⟩
 have hP32 := hPd.setAtlas (by omega) hl2 hm32 hA2
 repeat (first | refine kN_at ?_ | refine kB_at ?_ | refine kfld_of ?_ | refine kext_at rfl ?_ | refine kG_of (by first | exact rfl | omega) ?_ | refine klen_at ?_ | refine eql_at ?_ | refine neq_at ?_ | refine lss_at ?_ | refine leq_at ?_ | refine gtr_at ?_ | refine geq_at ?_ | refine add_at (by omega) (by omega) ?_ | refine sub_at (by omega) (by omega) ?_ | refine not_at ?_ | refine kO_at ?_ | refine kprt_at rfl ?_ | refine kprtN_at rfl ?_ | refine kcap_at ?_ | refine klenStr_at ?_ | refine kN_iat ?_ | refine kN_fat ?_ | refine kIf_T (by first | exact rfl | exact decT (by omega) | exact notT (decF (by omega))) ?_ | refine kIf_F (by first | exact rfl | exact decF (by omega) | exact notF (decT (by omega))) ?_)
 rw [keq_nil_nil' ifErr]
 refine kB_at ?_
 refine kIf_F rfl ?_
 unfold f13_1
 have hsz2 := hm2.size
 have hsz4 := m4.size
 have hsz12 := m12.size
 have hsz32 := hm32.size
 have hFu : ∀ {T : Tag → Prop} k, w.heap.size ≤ k → ¬ FP (cutL o w.heap.size) T k := fun k hk ⟨t, e1, _⟩ => by rw [hcutn k hk] at e1; cases e1
 have he32 := hm32.get hed (hFu _ (by omega))
 have hp32 := hm32.get hpd (hFu _ (by omega))
 have hPc := hP32.frame (Mod.refl (fun _ => False) _) (fun _ _ _ h => h) (LabEq.cut w32 o2)
 have hu2 : ∀ k, w.heap.size ≤ k → k < wd.heap.size → cutL o2 w32.heap.size k = none := fun k h1 h2 => by
  unfold cutL; rw [if_pos (by omega), hl2 k h2]; exact hcutn k h1
 have hDlt := hD.lt
 have hDc : cutL o2 w32.heap.size 9 = none := by
  unfold cutL
  rw [if_pos (by omega), hl2 _ (by omega)]
  exact hDo0
 have hD32 : DeAt w32 := ((hD.same m4).same m17).mod hm32 fun ⟨t, e1, _⟩ => by rw [hDo0] at e1; cases e1
 repeat (first | refine kN_at ?_ | refine kB_at ?_ | refine kfld_of ?_ | refine kext_at rfl ?_ | refine kld_at he32 rfl ?_ | refine kldN_at he32 rfl (by omega) ?_ | refine kG_of (by first | exact rfl | omega) ?_ | refine klen_at ?_ | refine eql_at ?_ | refine neq_at ?_ | refine lss_at ?_ | refine leq_at ?_ | refine gtr_at ?_ | refine geq_at ?_ | refine add_at (by omega) (by omega) ?_ | refine sub_at (by omega) (by omega) ?_ | refine not_at ?_ | refine kO_at ?_ | refine kprt_at rfl ?_ | refine kprtN_at rfl ?_ | refine kcap_at ?_ | refine klenStr_at ?_ | refine kN_iat ?_ | refine kN_fat ?_ | refine kIf_T (by first | exact rfl | exact decT (by omega) | exact notT (decF (by omega))) ?_ | refine kIf_F (by first | exact rfl | exact decF (by omega) | exact notF (decT (by omega))) ?_)
 refine kcall_of (move_at hD32 hPc hDc hG h.tle ht hg (bc := w2.heap.size) (by omega) (hu2 _ (by omega) (by omega)) (with_turns hp32 (by omega)) hperm hLc hm' hfit') ?_
 rintro v w43 ⟨rfl, S', hG', hW, hTu⟩
 refine ⟨rfl, S', hG', hW, ?_⟩
 refine Turned.wrap m4 ?_ (Mod.refl _ _)
 refine Turned.seq (o1 := cutL o w.heap.size) (w1 := w4) (LabEq.refl _ _) (Mod.refl _ _) m17 ?_
 exact Turned.seq (o1 := cutL o2 w32.heap.size) (w1 := w32) (hl2.trans (LabEq.cut w32 o2) hm32.size) (hm32.mono fun k _ hk => FP.mono (fun _ _ => trivial) hk) (Mod.refl _ _) hTu
end
section
attribute [local irreducible] kO kB kStr kInt kN kG kIf kfld kld kldN kst knew kmap kbld kbldS kext kcnv klenStr klen kcap kprt kprtN kbool kint kstr keq kun ksl kix kiv kta kmk kmm ksem ksemU kextf kcallV kcallM kcall kL
def PtInv (w0 : World) (p : Ptrs) (S : SM) (n r rI bm : Nat) (hn : n < S.tabs.length) (j : Nat) (x : Value) (w : World) : Prop :=
 ∃ seen : List Nat, seen.length = j ∧ seen.Nodup ∧ (∀ i ∈ seen, i < (compsM S.masks n).length) ∧
  blk w rI = some (.mapIter (some bm) ((compsM S.masks n).map fun (c : Nat) => ((c : Int), ptrV (p.pc n c))).length seen.toArray ((compsM S.masks n).map fun (c : Nat) => ((c : Int), ptrV (p.pc n c))).length) ∧
  Own w x 6 (((seenL (compsM S.masks n) seen).map (partAt S.tabs[n] r)).flatMap Part.cells) ∧ (∀ k, vblk x k → rI < k) ∧ Mod (fun k => k = rI) w0 w
theorem parts_at {o : Lab} {w : World} {b : Nat} {p : Ptrs} {S : SM} (h : StoreP o w b p S) {t : Nat} (hG : GS S t) {i : Nat} {g : Int} (hg : S.gens[i]? = some (g, true)) :
  Meets Tryz.prog 17 #[ptrV b, entV i g] w fun v w' => ∃ sv, v = .tuple #[sv, .nilIface] ∧ Own w' sv 6 ((partsOf S i).flatMap Part.cells) ∧ (∀ k, vblk sv k → w.heap.size ≤ k) ∧ Same w w' := by
 obtain ⟨n, r, hsp, hn, hnm, hcol, hpe, hce, hmap, hfit, hmk, hmlt, hpc⟩ := parts_ok h hG hg
 have hc64 : (compsM S.masks n).length ≤ 32 := by rw [hce]; exact listF_len _
 rw [ptrV]
 refine f17_ok ?_
 unfold f17
 refine knew_of fun w2 hm2 hs2 hb2 => ?_
 have hb2 : blk w2 w.heap.size = some (.cells #[.int .i64 i, .int .i64 g] 37) := hb2
 repeat (first | refine kN_at ?_ | refine kB_at ?_ | refine kfld_of ?_ | refine kext_at rfl ?_ | refine kld_at hb2 rfl ?_ | refine kldN_at hb2 rfl (by omega) ?_ | refine kG_of (by first | exact rfl | omega) ?_ | refine klen_at ?_ | refine eql_at ?_ | refine neq_at ?_ | refine lss_at ?_ | refine leq_at ?_ | refine gtr_at ?_ | refine geq_at ?_ | refine add_at (by omega) (by omega) ?_ | refine sub_at (by omega) (by omega) ?_ | refine not_at ?_ | refine kO_at ?_ | refine kprt_at rfl ?_ | refine kprtN_at rfl ?_ | refine kcap_at ?_ | refine klenStr_at ?_ | refine kN_iat ?_ | refine kN_fat ?_ | refine kIf_T (by first | exact rfl | exact decT (by omega) | exact notT (decF (by omega))) ?_ | refine kIf_F (by first | exact rfl | exact decF (by omega) | exact notF (decT (by omega))) ?_)
 refine kcall_of (sSpot_spec (h.same hm2) hg hsp) ?_
 rintro v w5 ⟨rfl, h5⟩
 repeat (first | refine kN_at ?_ | refine kB_at ?_ | refine kfld_of ?_ | refine kext_at rfl ?_ | refine kG_of (by first | exact rfl | omega) ?_ | refine klen_at ?_ | refine eql_at ?_ | refine neq_at ?_ | refine lss_at ?_ | refine leq_at ?_ | refine gtr_at ?_ | refine geq_at ?_ | refine add_at (by omega) (by omega) ?_ | refine sub_at (by omega) (by omega) ?_ | refine not_at ?_ | refine kO_at ?_ | refine kprt_at rfl ?_ | refine kprtN_at rfl ?_ | refine kcap_at ?_ | refine klenStr_at ?_ | refine kN_iat ?_ | refine kN_fat ?_ | refine kIf_T (by first | exact rfl | exact decT (by omega) | exact notT (decF (by omega))) ?_ | refine kIf_F (by first | exact rfl | exact decF (by omega) | exact notF (decT (by omega))) ?_)
 refine knew_of fun w9 h9 hs9 hb9 => ?_
 refine kst_of (vs := [natV n, natV r]) hb9 rfl rfl rfl (by simp) (by simp) fun w10 h10 hs10 hb10 => ?_
 have hb10 : blk w10.drew w5.heap.size = some (.cells #[.int .i64 n, .int .i64 r] 120) := hb10
 have hsz5 := h5.size
 have m10 : Same w w10.drew := (((hm2.trans h5).trans h9).trans' (h10.mono fun k _ e => .inr (by omega))).trans (Mod.refl (fun _ => False) _).drew
 rw [keq_nil_nil' ifErr]
 refine kB_at ?_
 refine kIf_F rfl ?_
 unfold f17_0
 have hs10 : w10.drew.heap.size = w5.heap.size + 1 := by show w10.heap.size = _; omega
 generalize w10.drew = wa at *
 have hPa := h.same m10
 have hba := hPa.here
 obtain ⟨ta, tc, et, hts⟩ := hPa.ptab hn
 rw [et] at hba
 have hT := hPa.tab n hn
 obtain ⟨q1, rv, bm, q2, q3, q4, q5, q6, q7⟩ := id hT
 repeat (first | refine kN_at ?_ | refine kB_at ?_ | refine kfld_of ?_ | refine kext_at rfl ?_ | refine kld_at hba rfl ?_ | refine kld_at hb10 rfl ?_ | refine kldN_at hba rfl (by omega) ?_ | refine kldN_at hb10 rfl (by omega) ?_ | refine kG_of (by first | exact rfl | omega) ?_ | refine klen_at ?_ | refine eql_at ?_ | refine neq_at ?_ | refine lss_at ?_ | refine leq_at ?_ | refine gtr_at ?_ | refine geq_at ?_ | refine add_at (by omega) (by omega) ?_ | refine sub_at (by omega) (by omega) ?_ | refine not_at ?_ | refine kO_at ?_ | refine kprt_at rfl ?_ | refine kprtN_at rfl ?_ | refine kcap_at ?_ | refine klenStr_at ?_ | refine kN_iat ?_ | refine kN_fat ?_ | refine kIf_T (by first | exact rfl | exact decT (by omega) | exact notT (decF (by omega))) ?_ | refine kIf_F (by first | exact rfl | exact decF (by omega) | exact notF (decT (by omega))) ?_)
 have ele : (List.range S.tabs.length).length = S.tabs.length := List.length_range
 refine kixld_of (F := fun i => ptrV (p.pt i)) (c := tc) (l := List.range S.tabs.length) hts (show n < (List.range S.tabs.length).length by omega) rfl ?_ |> fun h => by rw [ele] at h; exact h
 rw [List.getElem_range, ptrV]
 refine kG_of rfl ?_
 repeat (first | refine kN_at ?_ | refine kB_at ?_ | refine kfld_of ?_ | refine kext_at rfl ?_ | refine kld_at q2 rfl ?_ | refine kldN_at q2 rfl (by omega) ?_ | refine kG_of (by first | exact rfl | omega) ?_ | refine klen_at ?_ | refine eql_at ?_ | refine neq_at ?_ | refine lss_at ?_ | refine leq_at ?_ | refine gtr_at ?_ | refine geq_at ?_ | refine add_at (by omega) (by omega) ?_ | refine sub_at (by omega) (by omega) ?_ | refine not_at ?_ | refine kO_at ?_ | refine kprt_at rfl ?_ | refine kprtN_at rfl ?_ | refine kcap_at ?_ | refine klenStr_at ?_ | refine kN_iat ?_ | refine kN_fat ?_ | refine kIf_T (by first | exact rfl | exact decT (by omega) | exact notT (decF (by omega))) ?_ | refine kIf_F (by first | exact rfl | exact decF (by omega) | exact notF (decT (by omega))) ?_)
 refine krange_of Tryz.underlying126 q6 fun w21 h21 hs21 hb21 => ?_
 have hlr : p.pt n < wa.heap.size := lt_of_blk q2
 have hmsz := m10.size
 have hs21' : w21.heap.size = wa.heap.size + 1 := hs21
 refine kL1_of (compsM S.masks n).length (PtInv w21 p S n r wa.heap.size bm hn) ⟨lI1_0 ?_, fun x wr hx => ?_⟩
 ·exact ⟨[], rfl, List.nodup_nil, fun i hi => by simp at hi, hb21, Own.nil _ _, (fun k hk => by obtain ⟨_, _, _, e⟩ := hk; cases e), Mod.refl _ _⟩
 obtain ⟨j, hj, ⟨seen, hsl, hnd, hsb, hit, hOx, hfx, hmr⟩, hJ⟩ := lI1_step hx
 have hlt6 := lt_of_blk q6
 have q6r : MapIs wr bm .i64 _ := (q6.mod h21 (fun h => h)).mod hmr (fun e => by omega)
 have hmr0 : Same w wr := (m10.trans h21).trans' (hmr.mono fun k _ e => .inr (by omega))
 unfold f17_1
 refine knext_of hit q6r (fun hall => ?_) (fun ix hix hnix w2' hm2' hs2' hit2 => ?_)
 ·have hperm := seenL_perm hnd hsb (fun i hi => hall i (by simpa using hi))
  repeat (first | refine kN_at ?_ | refine kB_at ?_ | refine kfld_of ?_ | refine kext_at rfl ?_ | refine kG_of (by first | exact rfl | omega) ?_ | refine klen_at ?_ | refine eql_at ?_ | refine neq_at ?_ | refine lss_at ?_ | refine leq_at ?_ | refine gtr_at ?_ | refine geq_at ?_ | refine add_at (by omega) (by omega) ?_ | refine sub_at (by omega) (by omega) ?_ | refine not_at ?_ | refine kO_at ?_ | refine kprt_at rfl ?_ | refine kprtN_at rfl ?_ | refine kcap_at ?_ | refine klenStr_at ?_ | refine kN_iat ?_ | refine kN_fat ?_ | refine kIf_T (by first | exact rfl | exact decT (by omega) | exact notT (decF (by omega))) ?_ | refine kIf_F (by first | exact rfl | exact decF (by omega) | exact notF (decT (by omega))) ?_)
  refine kcall_of (sorted_spec hOx (by simp [hperm.length_eq]; omega)) ?_
  rintro v w77 ⟨L', g1, g2, g3, g4⟩
  have hL' := sort_unique (compsM_sorted S.masks n) (f := partAt S.tabs[n] r) hpc (hperm.map _) g1 g2
  rw [hL'] at g3
  rw [hpe]
  exact ⟨x, rfl, g3, fun k hk => by have := hfx k hk; omega, hmr0.trans' (g4.mono fun k _ e => .inr (by have := hfx k e; omega))⟩
 ·have hixc : ix < (compsM S.masks n).length := by simpa using hix
  have hgi : ((compsM S.masks n).map fun (c : Nat) => ((c : Int), ptrV (p.pc n c)))[ix] = (((compsM S.masks n)[ix] : Int), ptrV (p.pc n (compsM S.masks n)[ix])) := by simp
  have hjl : j < (compsM S.masks n).length := by
   have hnd2 : (seen ++ [ix]).Nodup := List.nodup_append.2 ⟨hnd, by simp, fun a ha b hb e => by simp at hb; subst hb; subst e; exact hnix ha⟩
   have := List.Nodup.length_le_of_subset hnd2 (l₂ := List.range (compsM S.masks n).length) (fun a ha => by
    rcases List.mem_append.1 ha with h | h
    ·simpa using hsb a h
    ·simp at h; subst h; simpa using hixc)
   simp at this; omega
  repeat (first | refine kN_at ?_ | refine kB_at ?_ | refine kfld_of ?_ | refine kext_at rfl ?_ | refine kG_of (by first | exact rfl | omega) ?_ | refine klen_at ?_ | refine eql_at ?_ | refine neq_at ?_ | refine lss_at ?_ | refine leq_at ?_ | refine gtr_at ?_ | refine geq_at ?_ | refine add_at (by omega) (by omega) ?_ | refine sub_at (by omega) (by omega) ?_ | refine not_at ?_ | refine kO_at ?_ | refine kprt_at rfl ?_ | refine kprtN_at rfl ?_ | refine kcap_at ?_ | refine klenStr_at ?_ | refine kN_iat ?_ | refine kN_fat ?_ | refine kIf_T (by first | exact rfl | exact decT (by omega) | exact notT (decF (by omega))) ?_ | refine kIf_F (by first | exact rfl | exact decF (by omega) | exact notF (decT (by omega))) ?_)
  unfold f17_2
  refine kentry_of hix hit2 (q6r.mod hm2' (fun e => by omega)) ?_
  rw [hgi]
  generalize hc : (compsM S.masks n)[ix] = c at *
  have hcm : c ∈ compsM S.masks n := hc ▸ List.getElem_mem hixc
  have hzr := hmr.size
  have hm02 : Same w w2' := hmr0.trans' (hm2'.mono fun k _ e => .inr (by omega))
  have hCol := ((h.same hm02).tab n hn).col hcm
  have hb2r : blk w2' w5.heap.size = some (.cells #[.int .i64 n, .int .i64 r] 120) := hm2'.get (hmr.get (h21.get hb10 (fun h => h)) (by omega)) (by omega)
  repeat (first | refine kN_at ?_ | refine kB_at ?_ | refine kfld_of ?_ | refine kext_at rfl ?_ | refine kld_at hb2r rfl ?_ | refine kldN_at hb2r rfl (by omega) ?_ | refine kG_of (by first | exact rfl | omega) ?_ | refine klen_at ?_ | refine eql_at ?_ | refine neq_at ?_ | refine lss_at ?_ | refine leq_at ?_ | refine gtr_at ?_ | refine geq_at ?_ | refine add_at (by omega) (by omega) ?_ | refine sub_at (by omega) (by omega) ?_ | refine not_at ?_ | refine kO_at ?_ | refine kprt_at rfl ?_ | refine kprtN_at rfl ?_ | refine kcap_at ?_ | refine klenStr_at ?_ | refine kN_iat ?_ | refine kN_fat ?_ | refine kIf_T (by first | exact rfl | exact decT (by omega) | exact notT (decF (by omega))) ?_ | refine kIf_F (by first | exact rfl | exact decF (by omega) | exact notF (decT (by omega))) ?_)
  have hrc := hcol c hcm
  refine kcall_of (cRow_spec hCol hrc) ?_
  rintro v w31 ⟨rfl, hm31⟩
  repeat (first | refine kN_at ?_ | refine kB_at ?_ | refine kfld_of ?_ | refine kext_at rfl ?_ | refine kG_of (by first | exact rfl | omega) ?_ | refine klen_at ?_ | refine eql_at ?_ | refine neq_at ?_ | refine lss_at ?_ | refine leq_at ?_ | refine gtr_at ?_ | refine geq_at ?_ | refine add_at (by omega) (by omega) ?_ | refine sub_at (by omega) (by omega) ?_ | refine not_at ?_ | refine kO_at ?_ | refine kprt_at rfl ?_ | refine kprtN_at rfl ?_ | refine kcap_at ?_ | refine klenStr_at ?_ | refine kN_iat ?_ | refine kN_fat ?_ | refine kIf_T (by first | exact rfl | exact decT (by omega) | exact notT (decF (by omega))) ?_ | refine kIf_F (by first | exact rfl | exact decF (by omega) | exact notF (decT (by omega))) ?_)
  refine knew_of fun w35 h35 hs35 hb35 => ?_
  refine kst_of (vs := ((S.tabs[n].col c)[r]).cells) hb35 rfl rfl rfl (by simp) (by simp [Part.cells]) fun w36 h36 hs36 hb36 => ?_
  have hb36 : blk w36 w31.heap.size = some (.cells ((S.tabs[n].col c)[r]).cells.toArray 47) := hb36
  rw [keq_nil_nil' ifErr]
  refine kB_at ?_
  refine kIf_F rfl ?_
  unfold f17_3
  repeat (first | refine kN_at ?_ | refine kB_at ?_ | refine kfld_of ?_ | refine kext_at rfl ?_ | refine kld_at hb36 rfl ?_ | refine kldN_at hb36 rfl (by omega) ?_ | refine kG_of (by first | exact rfl | omega) ?_ | refine klen_at ?_ | refine eql_at ?_ | refine neq_at ?_ | refine lss_at ?_ | refine leq_at ?_ | refine gtr_at ?_ | refine geq_at ?_ | refine add_at (by omega) (by omega) ?_ | refine sub_at (by omega) (by omega) ?_ | refine not_at ?_ | refine kO_at ?_ | refine kprt_at rfl ?_ | refine kprtN_at rfl ?_ | refine kcap_at ?_ | refine klenStr_at ?_ | refine kN_iat ?_ | refine kN_fat ?_ | refine kIf_T (by first | exact rfl | exact decT (by omega) | exact notT (decF (by omega))) ?_ | refine kIf_F (by first | exact rfl | exact decF (by omega) | exact notF (decT (by omega))) ?_)
  refine kbldS_of (cs := ((S.tabs[n].col c)[r]).cells) rfl fun w41 h41 hs41 hb41 => ?_
  have hz2 := hm2'.size
  have hz31 := hm31.size
  have m41 : Same w2' w41 := (hm31.trans (h35.trans' (h36.mono fun k _ e => .inr (by omega)))).trans h41
  have hO41 : Own w41 x 6 _ := (hOx.mod hm2' (fun k hk e => by have := hfx k hk; omega)).same m41
  have hpl : (seenL (compsM S.masks n) seen).length = j := by simp [seenL, hsl]
  refine ksem_append apParts (by omega) hO41 (Src.ofSlIs (hk := slPart_is.choose_spec) 1 (SlIs.blk hb41 rfl) (ones_parts [(S.tabs[n].col c)[r]])) (by rw [flat_len Part.cells 6 (fun _ => rfl)]; simp [hpl, Part.cells]; omega) (by rw [flat_len Part.cells 6 (fun _ => rfl)]; simp [hpl, Part.cells]; omega) ?_
  intro v' w43 ho43 hm43 hf43
  have hit43 := hm43.get (m41.get hit2 (fun h => h)) (fun e => by have := hfx _ e; omega)
  refine hJ _ _ hjl ⟨seen ++ [ix], by simp [hsl], ?_, ?_, hit43, ?_, ?_, ?_⟩
  ·exact List.nodup_append.2 ⟨hnd, by simp, fun a ha b hb e => by simp at hb; subst hb; subst e; exact hnix ha⟩
  ·intro a ha
   rcases List.mem_append.1 ha with h | h
   ·exact hsb a h
   ·simp at h; subst h; exact hixc
  ·rw [seenL_snoc _ _ _ hixc, hc, List.map_append, List.flatMap_append]
   have e : ([c].map (partAt S.tabs[n] r)).flatMap Part.cells = ((S.tabs[n].col c)[r]).cells := by
    simp [partAt, List.getElem?_eq_getElem hrc]
   rw [e]
   exact ho43
  ·intro k hk
   rcases hf43 k hk with h | h
   ·exact hfx k h
   ·have := m41.size; omega
  ·have y3 : Mod (fun i => i = wa.heap.size ∨ w21.heap.size ≤ i) w41 w43 := hm43.mono fun k _ e => .inr (by have := hfx k e; omega)
   exact hmr.trans' ((hm2'.mono fun k _ e => .inl e).trans ((Mod.of_same m41).trans y3))
end
section
attribute [local irreducible] kO kB kStr kInt kN kG kIf kfld kld kldN kst knew kmap kbld kbldS kext kcnv klenStr klen kcap kprt kprtN kbool kint kstr keq kun ksl kix kiv kta kmk kmm ksem ksemU kextf kcallV kcallM kcall kL
theorem insert_twice {pr : Nat → Prop} {Sa : Nat → Addr} {o : Lab} {w : World} (hL : LaidP pr Sa w) (h9 : pr 9) {b : Nat} {p : Ptrs} {S : SM} (h : StoreP o w b p S) {t : Nat} (hG : GS S t) {i : Nat} {g : Int} (hg : S.gens[i]? = some (g, true)) {q : Part} (hq : FitsP S.cs q) {y : Part} (hy : y ∈ partsOf S i) (hyq : y.comp = q.comp) :
  Meets Tryz.prog 13 #[ptrV b, entV i g, .agg q.cells.toArray] w fun v w' => ErrX Sa 9 w.heap.size v w' ∧ Same w w' := by
 obtain ⟨n, r, hsp, hn, hnm, hcol, hpe, hce, hmap, hfit, hmk, hmlt, hpc⟩ := parts_ok h hG hg
 obtain ⟨c, hqc, hcl, hqcl⟩ := id hq
 have hcm : c ∈ compsM S.masks n := by
  rw [hpe] at hy
  obtain ⟨d, hd, rfl⟩ := List.mem_map.1 hy
  have := hpc d hd
  have : d = c := by omega
  subst this; exact hd
 rw [ptrV]
 refine f13_ok ?_
 unfold f13
 refine knew_of fun w2 hm2 hs2 hb2 => ?_
 have hb2 : blk w2 w.heap.size = some (.cells #[.int .i64 i, .int .i64 g] 37) := hb2
 refine knew_of fun w4 hm4 hs4 hb4 => ?_
 have hb4 : blk w4 w2.heap.size = some (.cells q.cells.toArray 47) := hb4
 have he4 := hm4.get hb2 (fun h => h)
 have m4 : Same w w4 := hm2.trans hm4
 have hP4 := h.cut m4
 have hcutn : ∀ k, w.heap.size ≤ k → cutL o w.heap.size k = none := fun k hk => cutL_none hk
 repeat (first | refine kN_at ?_ | refine kB_at ?_ | refine kfld_of ?_ | refine kext_at rfl ?_ | refine kld_at he4 rfl ?_ | refine kldN_at he4 rfl (by omega) ?_ | refine kG_of (by first | exact rfl | omega) ?_ | refine klen_at ?_ | refine eql_at ?_ | refine neq_at ?_ | refine lss_at ?_ | refine leq_at ?_ | refine gtr_at ?_ | refine geq_at ?_ | refine add_at (by omega) (by omega) ?_ | refine sub_at (by omega) (by omega) ?_ | refine not_at ?_ | refine kO_at ?_ | refine kprt_at rfl ?_ | refine kprtN_at rfl ?_ | refine kcap_at ?_ | refine klenStr_at ?_ | refine kN_iat ?_ | refine kN_fat ?_ | refine kIf_T (by first | exact rfl | exact decT (by omega) | exact notT (decF (by omega))) ?_ | refine kIf_F (by first | exact rfl | exact decF (by omega) | exact notF (decT (by omega))) ?_)
 refine kcall_of (sSpot_spec hP4 hg hsp) ?_
 rintro v w7 ⟨rfl, h7⟩
 repeat (first | refine kN_at ?_ | refine kB_at ?_ | refine kfld_of ?_ | refine kext_at rfl ?_ | refine kG_of (by first | exact rfl | omega) ?_ | refine klen_at ?_ | refine eql_at ?_ | refine neq_at ?_ | refine lss_at ?_ | refine leq_at ?_ | refine gtr_at ?_ | refine geq_at ?_ | refine add_at (by omega) (by omega) ?_ | refine sub_at (by omega) (by omega) ?_ | refine not_at ?_ | refine kO_at ?_ | refine kprt_at rfl ?_ | refine kprtN_at rfl ?_ | refine kcap_at ?_ | refine klenStr_at ?_ | refine kN_iat ?_ | refine kN_fat ?_ | refine kIf_T (by first | exact rfl | exact decT (by omega) | exact notT (decF (by omega))) ?_ | refine kIf_F (by first | exact rfl | exact decF (by omega) | exact notF (decT (by omega))) ?_)
 refine knew_of fun w11 h11 hs11 hb11 => ?_
 refine kst_of (vs := [natV n, natV r]) hb11 rfl rfl rfl (by simp) (by simp) fun w12 h12 hs12 hb12 => ?_
 have hb12 : blk w12 w7.heap.size = some (.cells #[.int .i64 n, .int .i64 r] 120) := hb12
 have hsz7 := h7.size
 have m12 : Same w4 w12 := (h7.trans h11).trans' (h12.mono fun k _ e => .inr (by omega))
 rw [keq_nil_nil' ifErr]
 refine kB_at ?_
 refine kIf_F rfl ?_
 have hp12 := m12.get hb4 (fun h => h)
 refine kldN_at (cs := q.cells) hp12 rfl (by omega) ?_
 refine kcall_of (sFits_spec (hP4.same m12) q hq) ?_
 rintro v w17 ⟨rfl, h17⟩
 refine not_at ?_
 refine kB_at ?_
 refine kIf_F rfl ?_
 have m17 : Same w4 w17.drew := (m12.trans h17).trans (Mod.refl (fun _ => False) _).drew
 have hp17 : blk w17.drew w2.heap.size = _ := h17.get hp12 (fun h => h)
 have hb17 : blk w17.drew w7.heap.size = _ := h17.get hb12 (fun h => h)
 have he17 := m17.get he4 (fun h => h)
 have hsz17 : w12.heap.size ≤ w17.drew.heap.size := h17.size
 generalize w17.drew = wa at *
 have hPa := hP4.same m17
 have hba := hPa.here
 obtain ⟨ta, tc, et, hts⟩ := hPa.ptab hn
 rw [et] at hba
 have hT := hPa.tab n hn
 obtain ⟨q1, rv, bm, q2, q3, q4, q5, q6, q7⟩ := id hT
 repeat (first | refine kN_at ?_ | refine kB_at ?_ | refine kfld_of ?_ | refine kext_at rfl ?_ | refine kld_at hba rfl ?_ | refine kld_at hb17 rfl ?_ | refine kldN_at hba rfl (by omega) ?_ | refine kldN_at hb17 rfl (by omega) ?_ | refine kG_of (by first | exact rfl | omega) ?_ | refine klen_at ?_ | refine eql_at ?_ | refine neq_at ?_ | refine lss_at ?_ | refine leq_at ?_ | refine gtr_at ?_ | refine geq_at ?_ | refine add_at (by omega) (by omega) ?_ | refine sub_at (by omega) (by omega) ?_ | refine not_at ?_ | refine kO_at ?_ | refine kprt_at rfl ?_ | refine kprtN_at rfl ?_ | refine kcap_at ?_ | refine klenStr_at ?_ | refine kN_iat ?_ | refine kN_fat ?_ | refine kIf_T (by first | exact rfl | exact decT (by omega) | exact notT (decF (by omega))) ?_ | refine kIf_F (by first | exact rfl | exact decF (by omega) | exact notF (decT (by omega))) ?_)
 have ele : (List.range S.tabs.length).length = S.tabs.length := List.length_range
 refine kixld_of (F := fun i => ptrV (p.pt i)) (c := tc) (l := List.range S.tabs.length) hts (show n < (List.range S.tabs.length).length by omega) rfl ?_ |> fun h => by rw [ele] at h; exact h
 rw [List.getElem_range, ptrV]
 refine kG_of rfl ?_
 repeat (first | refine kN_at ?_ | refine kB_at ?_ | refine kfld_of ?_ | refine kext_at rfl ?_ | refine kld_at q2 rfl ?_ | refine kldN_at q2 rfl (by omega) ?_ | refine kG_of (by first | exact rfl | omega) ?_ | refine klen_at ?_ | refine eql_at ?_ | refine neq_at ?_ | refine lss_at ?_ | refine leq_at ?_ | refine gtr_at ?_ | refine geq_at ?_ | refine add_at (by omega) (by omega) ?_ | refine sub_at (by omega) (by omega) ?_ | refine not_at ?_ | refine kO_at ?_ | refine kprt_at rfl ?_ | refine kprtN_at rfl ?_ | refine kcap_at ?_ | refine klenStr_at ?_ | refine kN_iat ?_ | refine kN_fat ?_ | refine kIf_T (by first | exact rfl | exact decT (by omega) | exact notT (decF (by omega))) ?_ | refine kIf_F (by first | exact rfl | exact decF (by omega) | exact notF (decT (by omega))) ?_)
 refine kld_of (v := .int .i64 c) hp17 (by simp [Part.cells, hqc]) ?_
 refine kG_of rfl ?_
 refine klook_of Tryz.underlying126 Tryz.underlying3 zCol q6 (r := some (_, _)) (by rw [lk_comps, if_pos hcm]) ?_
 refine kG_of rfl ?_
 simp -dsimp only [ptrV]
 rw [keq_ptr_nil' ptCol]
 refine kG_of rfl ?_
 refine kB_at ?_
 refine kIf_T rfl ?_
 have mz : Same w wa := m4.trans m17
 have hLz := hL.same mz
 refine kld_err hLz (k := 9) h9 rfl rfl ?_
 refine kcall_of (sWrong_spec (ErrX.sent Sa 9 wa.heap.size wa) (Nat.le_refl _)) ?_
 rintro v w26 ⟨hx, h26⟩
 exact ⟨hx.mono mz.size, mz.trans h26⟩
end
section
attribute [local irreducible] kO kB kStr kInt kN kG kIf kfld kld kldN kst knew kmap kbld kbldS kext kcnv klenStr klen kcap kprt kprtN kbool kint kstr keq kun ksl kix kiv kta kmk kmm ksem ksemU kextf kcallV kcallM kcall kL
theorem sRemove_err {Sa : Nat → Addr} {k : Nat} {w : World} {b : Nat} {idx gen c : Int}
  (h : ∀ w2, Same w w2 → Meets Tryz.prog 65 #[ptrV b, entV idx gen, .int .i64 c] w2 fun v w' => ∃ x, v = .tuple #[.pointer none, .int .i64 0, x] ∧ ErrX Sa k w2.heap.size x w' ∧ Same w2 w') :
  Meets Tryz.prog 14 #[ptrV b, entV idx gen, .int .i64 c] w fun v w' => ∃ x, v = .tuple #[zPartV, x] ∧ ErrX Sa k w.heap.size x w' ∧ Same w w' := by
 refine f14_ok ?_
 unfold f14
 refine knew_of fun w2 hm2 hs2 hb2 => ?_
 have hb2 : blk w2 w.heap.size = some (.cells #[.int .i64 idx, .int .i64 gen] 37) := hb2
 refine knew_of fun w4 hm4 hs4 hb4 => ?_
 have hb4 : blk w4 w2.heap.size = some (.cells #[.int .i64 c] 3) := hb4
 refine knew_of fun w6 hm6 hs6 hb6 => ?_
 have he6 := hm6.get (hm4.get hb2 (fun h => h)) (fun h => h)
 have hc6 := hm6.get hb4 (fun h => h)
 have m6 : Same w w6 := (hm2.trans hm4).trans hm6
 repeat (first | refine kN_at ?_ | refine kB_at ?_ | refine kfld_of ?_ | refine kext_at rfl ?_ | refine kld_at he6 rfl ?_ | refine kld_at hc6 rfl ?_ | refine kldN_at he6 rfl (by omega) ?_ | refine kldN_at hc6 rfl (by omega) ?_ | refine kG_of (by first | exact rfl | omega) ?_ | refine klen_at ?_ | refine eql_at ?_ | refine neq_at ?_ | refine lss_at ?_ | refine leq_at ?_ | refine gtr_at ?_ | refine geq_at ?_ | refine add_at (by omega) (by omega) ?_ | refine sub_at (by omega) (by omega) ?_ | refine not_at ?_ | refine kO_at ?_ | refine kprt_at rfl ?_ | refine kprtN_at rfl ?_ | refine kcap_at ?_ | refine klenStr_at ?_ | refine kN_iat ?_ | refine kN_fat ?_ | refine kIf_T (by first | exact rfl | exact decT (by omega) | exact notT (decF (by omega))) ?_ | refine kIf_F (by first | exact rfl | exact decF (by omega) | exact notF (decT (by omega))) ?_)
 refine kcall_of (sGet_err (Sa := Sa) (k := k) fun w2' m2' => h w2' (m6.trans m2')) ?_
 rintro v w10 ⟨x, rfl, hx, h10⟩
 have hz10 := h10.get hb6 (fun h => h)
 have hsz10 := h10.size
 obtain ⟨t, y, rfl⟩ := hx.if
 rw [zPartV]
 repeat (first | refine kN_at ?_ | refine kB_at ?_ | refine kfld_of ?_ | refine kext_at rfl ?_ | refine kG_of (by first | exact rfl | omega) ?_ | refine klen_at ?_ | refine eql_at ?_ | refine neq_at ?_ | refine lss_at ?_ | refine leq_at ?_ | refine gtr_at ?_ | refine geq_at ?_ | refine add_at (by omega) (by omega) ?_ | refine sub_at (by omega) (by omega) ?_ | refine not_at ?_ | refine kO_at ?_ | refine kprt_at rfl ?_ | refine kprtN_at rfl ?_ | refine kcap_at ?_ | refine klenStr_at ?_ | refine kN_iat ?_ | refine kN_fat ?_ | refine kIf_T (by first | exact rfl | exact decT (by omega) | exact notT (decF (by omega))) ?_ | refine kIf_F (by first | exact rfl | exact decF (by omega) | exact notF (decT (by omega))) ?_)
 refine knew_of fun w14 h14 hs14 hb14 => ?_
 refine kst_of (vs := [.int .i64 0, .int .i64 0, .int .i64 0, .int .i64 0, .int .i64 0, .int .i64 0]) hb14 rfl rfl rfl (by simp) (by simp) fun w15 h15 hs15 hb15 => ?_
 have m15 : Same w10 w15 := h14.trans' (h15.mono fun k _ e => .inr (by omega))
 have hz15 := m15.get hz10 (fun h => h)
 rw [keq_if_nil' ifErr]
 refine kB_at ?_
 refine kIf_T rfl ?_
 refine kbld_of (cs := [.int .i64 0, .int .i64 0, .int .i64 0, .int .i64 0, .int .i64 0, .int .i64 0]) rfl ?_
 refine kst_of (vs := [.int .i64 0, .int .i64 0, .int .i64 0, .int .i64 0, .int .i64 0, .int .i64 0]) hz15 rfl rfl rfl (by simp) (by simp) fun w19 h19 hs19 hb19 => ?_
 have hb19 : blk w19 w4.heap.size = some (.cells #[.int .i64 0, .int .i64 0, .int .i64 0, .int .i64 0, .int .i64 0, .int .i64 0] 47) := hb19
 repeat (first | refine kN_at ?_ | refine kB_at ?_ | refine kfld_of ?_ | refine kext_at rfl ?_ | refine kld_at hb19 rfl ?_ | refine kldN_at hb19 rfl (by omega) ?_ | refine kG_of (by first | exact rfl | omega) ?_ | refine klen_at ?_ | refine eql_at ?_ | refine neq_at ?_ | refine lss_at ?_ | refine leq_at ?_ | refine gtr_at ?_ | refine geq_at ?_ | refine add_at (by omega) (by omega) ?_ | refine sub_at (by omega) (by omega) ?_ | refine not_at ?_ | refine kO_at ?_ | refine kprt_at rfl ?_ | refine kprtN_at rfl ?_ | refine kcap_at ?_ | refine klenStr_at ?_ | refine kN_iat ?_ | refine kN_fat ?_ | refine kIf_T (by first | exact rfl | exact decT (by omega) | exact notT (decF (by omega))) ?_ | refine kIf_F (by first | exact rfl | exact decF (by omega) | exact notF (decT (by omega))) ?_)
 refine ⟨_, rfl, ((hx.same m15).mod h19 fun k h1 h2 e => by omega).mono (by omega), ((m6.trans h10).trans m15).trans' (h19.mono fun k _ e => .inr (by omega))⟩
end
section
attribute [local irreducible] kO kB kStr kInt kN kG kIf kfld kld kldN kst knew kmap kbld kbldS kext kcnv klenStr klen kcap kprt kprtN kbool kint kstr keq kun ksl kix kiv kta kmk kmm ksem ksemU kextf kcallV kcallM kcall kL
theorem keq_partN {p q : Part} (hp : p.ok) (hq : q.ok) {w : World} {K : Value → World → Prop} {cx cy : Bool} :
  keq Tryz.prog .neq 47 cx cy (.agg p.cells.toArray) (.agg q.cells.toArray) w K = K (.bool (!decide (p = q))) w := by
 obtain ⟨r, hr, hiff⟩ := run_equalIn_deep (P := Tryz.prog) 9990 10 47 keyPart w 3 3 (.agg p.cells.toArray) (.agg q.cells.toArray) _ _ (formPart p) (formPart q) (kl_part hp 0) (kl_part hq 0)
 have hr2 : r = decide (p = q) := by
  rw [Bool.eq_iff_iff, hiff, decide_eq_true_eq]
  cases p; cases q
  simp
 rw [hr2] at hr
 simp only [keq, eqW, semV, Sem.run_bind, run_eqGuard_agg w .neq 47 _ _ p.cells.toArray q.cells.toArray guardPart, Result.andThen_ok, run_neq_struct]
 rw [show (10000 : Nat) = 9990 + 10 from rfl, hr]
 rfl
end
section
attribute [local irreducible] kO kB kStr kInt kN kG kIf kfld kld kldN kst knew kmap kbld kbldS kext kcnv klenStr klen kcap kprt kprtN kbool kint kstr keq kun ksl kix kiv kta kmk kmm ksem ksemU kextf kcallV kcallM kcall kL
end
section
attribute [local irreducible] kO kB kStr kInt kN kG kIf kfld kld kldN kst knew kmap kbld kbldS kext kcnv klenStr klen kcap kprt kprtN kbool kint kstr keq kun ksl kix kiv kta kmk kmm ksem ksemU kextf kcallV kcallM kcall kL
theorem spawn_full {pr : Nat → Prop} {Sa : Nat → Addr} {o : Lab} {w : World} (hL : LaidP pr Sa w) (h6 : pr 6) {b : Nat} {p : Ptrs} {S : SM} (h : StoreP o w b p S) (hfree : S.free = [])
  {L : List Part} {a : Option Addr} {c : Nat} (hs : SlIs w a L.length 6 (L.flatMap Part.cells)) (hn : L.length ≤ 1000000) (hf : ∀ q ∈ L, FitsP S.cs q) (hnt : NoTwice L) :
  Meets Tryz.prog 10 #[ptrV b, .slice a L.length c] w fun v w' => ∃ x, v = .tuple #[entV 0 0, x] ∧ ErrX Sa 6 w.heap.size x w' ∧ Same w w' := by
 refine f10_ok ?_
 unfold f10
 refine knew_of fun w2 hm2 hs2 hb2 => ?_
 have hP2 := h.same hm2
 rw [ptrV]
 rw [keq_ptr_nil ptSto]
 refine kB_at ?_
 refine kIf_F rfl ?_
 unfold f10_0
 refine kcall_of (sGathered_spec hP2 (hs.same hm2) hn hf hnt) ?_
 rintro v w12 ⟨sv, L', rfl, hL1, hL2, hL3, h12, hf12⟩
 have m12 := hm2.trans h12
 have hP12 := hP2.same h12
 have hb12 := h12.get hb2 (fun h => h)
 repeat (first | refine kN_at ?_ | refine kB_at ?_ | refine kfld_of ?_ | refine kext_at rfl ?_ | refine kG_of (by first | exact rfl | omega) ?_ | refine klen_at ?_ | refine eql_at ?_ | refine neq_at ?_ | refine lss_at ?_ | refine leq_at ?_ | refine gtr_at ?_ | refine geq_at ?_ | refine add_at (by omega) (by omega) ?_ | refine sub_at (by omega) (by omega) ?_ | refine not_at ?_ | refine kO_at ?_ | refine kprt_at rfl ?_ | refine kprtN_at rfl ?_ | refine kcap_at ?_ | refine klenStr_at ?_ | refine kN_iat ?_ | refine kN_fat ?_ | refine kIf_T (by first | exact rfl | exact decT (by omega) | exact notT (decF (by omega))) ?_ | refine kIf_F (by first | exact rfl | exact decF (by omega) | exact notF (decT (by omega))) ?_)
 rw [keq_nil_nil' ifErr]
 refine kB_at ?_
 refine kIf_F rfl ?_
 unfold f10_1
 have hh12 := hP12.here
 rw [ptrV] at hh12
 repeat (first | refine kN_at ?_ | refine kB_at ?_ | refine kfld_of ?_ | refine kext_at rfl ?_ | refine kld_at hh12 rfl ?_ | refine kldN_at hh12 rfl (by omega) ?_ | refine kG_of (by first | exact rfl | omega) ?_ | refine klen_at ?_ | refine eql_at ?_ | refine neq_at ?_ | refine lss_at ?_ | refine leq_at ?_ | refine gtr_at ?_ | refine geq_at ?_ | refine add_at (by omega) (by omega) ?_ | refine sub_at (by omega) (by omega) ?_ | refine not_at ?_ | refine kO_at ?_ | refine kprt_at rfl ?_ | refine kprtN_at rfl ?_ | refine kcap_at ?_ | refine klenStr_at ?_ | refine kN_iat ?_ | refine kN_fat ?_ | refine kIf_T (by first | exact rfl | exact decT (by omega) | exact notT (decF (by omega))) ?_ | refine kIf_F (by first | exact rfl | exact decF (by omega) | exact notF (decT (by omega))) ?_)
 have hR := hP12.roll
 rw [hfree] at hR
 refine kcall_of (rTakeFull_spec (hL.same m12) h6 hR) ?_
 rintro v w24 ⟨x, rfl, hx, h24⟩
 have hb24 := h24.get hb12 (fun h => h)
 repeat (first | refine kN_at ?_ | refine kB_at ?_ | refine kfld_of ?_ | refine kext_at rfl ?_ | refine kG_of (by first | exact rfl | omega) ?_ | refine klen_at ?_ | refine eql_at ?_ | refine neq_at ?_ | refine lss_at ?_ | refine leq_at ?_ | refine gtr_at ?_ | refine geq_at ?_ | refine add_at (by omega) (by omega) ?_ | refine sub_at (by omega) (by omega) ?_ | refine not_at ?_ | refine kO_at ?_ | refine kprt_at rfl ?_ | refine kprtN_at rfl ?_ | refine kcap_at ?_ | refine klenStr_at ?_ | refine kN_iat ?_ | refine kN_fat ?_ | refine kIf_T (by first | exact rfl | exact decT (by omega) | exact notT (decF (by omega))) ?_ | refine kIf_F (by first | exact rfl | exact decF (by omega) | exact notF (decT (by omega))) ?_)
 refine knew_of fun w28 h28 hs28 hb28 => ?_
 refine kst_of (vs := [.int .i64 0, .int .i64 0]) hb28 rfl rfl rfl (by simp) (by simp) fun w29 h29 hs29 hb29 => ?_
 have m29 : Same w24 w29 := h28.trans' (h29.mono fun k _ e => .inr (by omega))
 have hx29 := hx.same m29
 have hb29 := m29.get hb24 (fun h => h)
 have hsz12 := m12.size
 have hsz24 := h24.size
 obtain ⟨t, y, rfl⟩ := hx.if
 rw [keq_if_nil' ifErr]
 refine kB_at ?_
 refine kIf_T rfl ?_
 refine kbld_of (cs := [.int .i64 0, .int .i64 0]) rfl ?_
 refine kcall_of (sWrong_spec hx29 (by have := m29.size; omega)) ?_
 rintro v w33 ⟨hx33, h33⟩
 refine kst_of (vs := [.int .i64 0, .int .i64 0]) (h33.get hb29 (fun h => h)) rfl rfl rfl (by simp) (by simp) fun w34 h34 hs34 hb34 => ?_
 have hb34 : blk w34 w.heap.size = some (.cells #[.int .i64 0, .int .i64 0] 37) := hb34
 have hs2' : w2.heap.size = w.heap.size + 1 := hs2
 have hz2 := h12.size
 repeat (first | refine kN_at ?_ | refine kB_at ?_ | refine kfld_of ?_ | refine kext_at rfl ?_ | refine kld_at hb34 rfl ?_ | refine kldN_at hb34 rfl (by omega) ?_ | refine kG_of (by first | exact rfl | omega) ?_ | refine klen_at ?_ | refine eql_at ?_ | refine neq_at ?_ | refine lss_at ?_ | refine leq_at ?_ | refine gtr_at ?_ | refine geq_at ?_ | refine add_at (by omega) (by omega) ?_ | refine sub_at (by omega) (by omega) ?_ | refine not_at ?_ | refine kO_at ?_ | refine kprt_at rfl ?_ | refine kprtN_at rfl ?_ | refine kcap_at ?_ | refine klenStr_at ?_ | refine kN_iat ?_ | refine kN_fat ?_ | refine kIf_T (by first | exact rfl | exact decT (by omega) | exact notT (decF (by omega))) ?_ | refine kIf_F (by first | exact rfl | exact decF (by omega) | exact notF (decT (by omega))) ?_)
 exact ⟨_, rfl, (hx33.mod h34 fun k h1 h2 e => by omega).mono (by omega), ((m12.trans h24).trans (m29.trans h33)).trans' (h34.mono fun k _ e => .inr (by omega))⟩
theorem cellsEnt : Tryz.prog.cellsOf 37 = 2 := by kernel_rfl
theorem kl_ent {i g : Int} (h1 : I64 i) (h2 : I64 g) (d : Nat) : Tryz.prog.keyLits (d + 2) 37 [.int .i64 i, .int .i64 g] = some [.int .i64 i, .int .i64 g] := by
 unfold Program.keyLits
 simp only [Tryz.underlying37, cellsEnt]
 rw [if_pos ⟨by rfl, by kernel_rfl⟩]
 simp [cellsInt, kl_int h1, kl_int h2]
theorem keyEnt : Tryz.prog.keyTypeAt 10 37 = true := by kernel_rfl
theorem formEnt (i g : Int) : Value.formed Tryz.prog 37 (entV i g) = true := by
 unfold Value.formed entV
 simp only [Tryz.underlying37, cellsEnt]
 rfl
end
end Go.Proofs.YtmidldeaapdjoaaGreatDoor
namespace Go.Ev
open Go Go.RowKit
section
section
variable {α : Type} [DecidableEq α]
def entsG (F : α → Value) : Nat → List (α × Value) → List MapEntry
 | _, [] => []
 | i, (n, v) :: r => { key := F n, val := v, born := i } :: entsG F (i + 1) r
def lkG (n : α) : List (α × Value) → Option (Nat × Value)
 | [] => none
 | (m, v) :: r => if n = m then some (0, v) else (lkG n r).map fun x => (x.1 + 1, x.2)
def valG (n : α) (kv : List (α × Value)) : Option Value := (lkG n kv).map (·.2)
def putG (n : α) (v : Value) : List (α × Value) → List (α × Value)
 | [] => [(n, v)]
 | (m, u) :: r => if n = m then (n, v) :: r else (m, u) :: putG n v r
def MapG (F : α → Value) (w : World) (b : Nat) (kv : List (α × Value)) : Prop := blk w b = some (.map (entsG F 0 kv).toArray kv.length)
structure KeyT (P : Program) (kt : TypeId) (F : α → Value) : Prop where
 find : ∀ n kv w, (Instr.findKey kt (F n) (entsG F 0 kv)).run P w = .ok (lkG n kv) w
 check : ∀ e a w, (Instr.checkKey e 10000 kt (F a)).run P w = .ok () w
 stays : ∀ a, Instr.sameBits 10000 (F a) (F a) = true
theorem valG_put (n m : α) (v : Value) : ∀ kv : List (α × Value), valG n (putG m v kv) = if n = m then some v else valG n kv
 | [] => by
  by_cases h : n = m
  ·simp [valG, putG, lkG, h]
  ·simp [valG, putG, lkG, h]
 | (k, u) :: r => by
  have ih := valG_put n m v r
  unfold valG at ih ⊢
  simp only [putG, lkG]
  by_cases h1 : m = k
  ·subst h1
   rw [if_pos rfl]
   simp only [lkG]
   by_cases h2 : n = m <;> simp [h2]
  ·rw [if_neg h1]
   simp only [lkG]
   by_cases h2 : n = k
   ·have h3 : ¬ n = m := fun e => h1 (by rw [← e, h2])
    simp [h2]
    exact fun e => absurd e.symm h1
   ·simp only [h2, if_false, Option.map_map]
    have e1 : ((lkG n (putG m v r)).map ((fun x : Nat × Value => x.2) ∘ fun x => (x.1 + 1, x.2))) = (lkG n (putG m v r)).map (·.2) := by congr 1
    have e2 : ((lkG n r).map ((fun x : Nat × Value => x.2) ∘ fun x => (x.1 + 1, x.2))) = (lkG n r).map (·.2) := by congr 1
    rw [e1, e2]; exact ih
theorem lkG_none {n : α} : ∀ {kv : List (α × Value)}, lkG n kv = none ↔ n ∉ kv.map (·.1)
 | [] => by simp [lkG]
 | (m, v) :: r => by
  simp only [lkG, List.map_cons, List.mem_cons, not_or]
  by_cases h : n = m
  ·simp [h]
  ·simp [h, lkG_none (n := n) (kv := r)]
theorem lkG_some {n : α} : ∀ {kv : List (α × Value)} {i : Nat} {v : Value}, lkG n kv = some (i, v) → kv[i]? = some (n, v)
 | (m, u) :: r, i, v, h => by
  simp only [lkG] at h
  by_cases e : n = m
  ·rw [if_pos e] at h
   cases h
   simp [e]
  ·rw [if_neg e] at h
   obtain ⟨⟨j, u'⟩, h1, h2⟩ := Option.map_eq_some_iff.1 h
   cases h2
   simpa using lkG_some h1
theorem putG_keys (n : α) (v : Value) : ∀ kv : List (α × Value), (putG n v kv).map (·.1) = if n ∈ kv.map (·.1) then kv.map (·.1) else kv.map (·.1) ++ [n]
 | [] => by simp [putG]
 | (m, u) :: r => by
  simp only [putG]
  by_cases h : n = m
  ·simp [h]
  ·simp only [h, if_false, List.map_cons, List.mem_cons, false_or, putG_keys n v r]
   by_cases h2 : n ∈ r.map (·.1)
   ·simp [h2]
   ·simp [h2]
theorem putG_nodup {n : α} {v : Value} {kv : List (α × Value)} (h : (kv.map (·.1)).Nodup) : ((putG n v kv).map (·.1)).Nodup := by
 rw [putG_keys]
 split
 ·exact h
 ·rename_i hn
  exact List.nodup_append.2 ⟨h, by simp, fun a ha b hb e => by simp at hb; subst hb; subst e; exact hn ha⟩
variable {F : α → Value}
theorem putG_new {n : α} {v : Value} : ∀ {kv : List (α × Value)}, lkG n kv = none → putG n v kv = kv ++ [(n, v)]
 | [], _ => rfl
 | (m, u) :: r, h => by
  simp only [lkG] at h
  by_cases e : n = m
  ·rw [if_pos e] at h; cases h
  ·rw [if_neg e] at h
   simp only [putG, if_neg e]
   rw [putG_new (by simpa using h)]; rfl
theorem putG_old {n : α} {v u : Value} : ∀ {kv : List (α × Value)} {i : Nat}, lkG n kv = some (i, u) → putG n v kv = kv.set i (n, v)
 | (m, x) :: r, i, h => by
  simp only [lkG] at h
  by_cases e : n = m
  ·rw [if_pos e] at h
   cases h
   simp [putG, e]
  ·rw [if_neg e] at h
   obtain ⟨⟨j, u'⟩, h1, h2⟩ := Option.map_eq_some_iff.1 h
   cases h2
   simp only [putG, if_neg e]
   rw [putG_old h1]; rfl
section
variable {P : Program} {kt : TypeId}
theorem findAsking_ents (heq : ∀ a b w, (Op.equal kt (F a) (F b)).run P w = .ok (decide (a = b)) w) (n : α) (w : World) : ∀ (i j : Nat) (kv : List (α × Value)), (Instr.findAsking kt (F n) (entsG F i kv) j).run P w = .ok ((lkG n kv).map fun x => (j + x.1, x.2)) w
 | _, _, [] => by simp [entsG, Instr.findAsking, lkG]
 | i, j, (m, v) :: r => by
  simp only [entsG, Instr.findAsking, Sem.run_bind, heq, Result.andThen_ok, lkG]
  by_cases h : n = m
  ·subst h; simp
  ·simp only [h, decide_false, if_false, Bool.false_eq_true]
   rw [findAsking_ents heq n w (i + 1) (j + 1) r]
   cases lkG n r with
   | none => simp
   | some x => simp; omega
theorem KeyT.ofWide (hwide : (match P.underlying kt with | some (.array _ _) | some (.struct _) => true | _ => false) = true)
  (heq : ∀ a b w, (Op.equal kt (F a) (F b)).run P w = .ok (decide (a = b)) w) (hch : ∀ e a w, (Instr.checkKey e 10000 kt (F a)).run P w = .ok () w) (hst : ∀ a, Instr.sameBits 10000 (F a) (F a) = true) : KeyT P kt F where
 find n kv w := by
  rw [run_findKey_eq w hwide, findAsking_ents heq n w 0 0 kv]
  cases lkG n kv <;> simp
 check := hch
 stays := hst
theorem findNow_entsG (k : IntKind) (n : Int) : ∀ (i j : Nat) (kv : List (Int × Value)), Instr.findNow (.int k) (.int k n) (entsG (fun n => .int k n) i kv) j = some ((lkG n kv).map fun x => (j + x.1, x.2))
 | _, _, [] => by simp [entsG, Instr.findNow, lkG]
 | i, j, (m, v) :: r => by
  simp only [entsG, Instr.findNow, Instr.sameNow, if_true, lkG]
  by_cases h : n = m
  ·subst h; simp
  ·have hb : (n == m) = false := by simpa using h
   rw [hb]
   simp only [h, if_false]
   rw [findNow_entsG k n (i + 1) (j + 1) r]
   cases lkG n r with
   | none => simp
   | some x => simp; omega
theorem KeyT.int {k : IntKind} (hk : P.underlying kt = some (.int k)) : KeyT P kt (fun n : Int => Value.int k n) where
 find n kv w := by
  simp only [Instr.findKey, Sem.run_bind, run_underlying hk, Result.andThen_ok, findNow_entsG, Sem.run_pure]
  cases lkG n kv <;> simp
 check e a w := run_checkKey_int hk e a
 stays a := by simp [Instr.sameBits]
theorem keyStaysG (hK : KeyT P kt F) (n : α) (w : World) : (Instr.keyThatStays (F n) (F n)).run P w = .ok (F n) w := by
 simp [Instr.keyThatStays, hK.stays]
variable {w : World}
theorem MapG.mod {β : Type} {F : β → Value} {fp : Nat → Prop} {w' : World} {b : Nat} {kv : List (β × Value)} (h : MapG F w b kv) (hm : Mod fp w w') (hf : ¬ fp b) : MapG F w' b kv := hm.get h hf
theorem MapG.same {β : Type} {F : β → Value} {w' : World} {b : Nat} {kv : List (β × Value)} (h : MapG F w b kv) (hm : Same w w') : MapG F w' b kv := hm.get h fun h => h
end
end
end
end Go.Ev
namespace Go.Proofs.YtmidldeaapdjoaaGreatDoor
open Go Go.Ev
section
structure EK where
 i : Int
 g : Int
 hi : I64 i
 hg : I64 g
deriving instance DecidableEq for EK
def EK.v (x : EK) : Value := entV x.i x.g
theorem EK.ext {x y : EK} (h1 : x.i = y.i) (h2 : x.g = y.g) : x = y := by
 cases x; cases y; cases h1; cases h2; rfl
theorem wideEnt : (match Tryz.prog.underlying 37 with | some (.array _ _) | some (.struct _) => true | _ => false) = true := by rw [Tryz.underlying37]
theorem keyEK : KeyT Tryz.prog 37 EK.v := by
 refine KeyT.ofWide wideEnt (fun a b w => ?_) (fun e a w => ?_) (fun a => ?_)
 ·obtain ⟨r, hr, hiff⟩ := run_equalIn_deep (P := Tryz.prog) 9990 10 37 keyEnt w 2 2 a.v b.v _ _ (formEnt a.i a.g) (formEnt b.i b.g) (kl_ent a.hi a.hg 0) (kl_ent b.hi b.hg 0)
  have hr2 : r = decide (a = b) := by
   rw [Bool.eq_iff_iff, hiff, decide_eq_true_eq]
   constructor
   ·intro h
    simp at h
    exact EK.ext h.1 h.2
   ·rintro rfl; rfl
  rw [hr2] at hr
  exact hr
 ·exact run_checkKey_deep (P := Tryz.prog) e 9990 10 37 keyEnt w 2 a.v _ (formEnt a.i a.g) (kl_ent a.hi a.hg 0)
 ·simp [EK.v, entV, Instr.sameBits]
theorem keyInt : KeyT Tryz.prog 3 (fun n : Int => Value.int .i64 n) := KeyT.int Tryz.underlying3
end
section
def f74 (Q : PQ) (w : World) : Prop :=
 kmap w fun v1 w2 =>
 kmap w2 fun v3 w4 =>
 kbld [.map none, .map none, .slice none 0 0, .int .i64 0] [(0, 1, v1), (1, 1, v3), (3, 1, (.int .i64 1))] fun v5 =>
 knew (Value.cells v5) 225 w4 fun v6 w7 =>
 Q v6 w7
theorem f74_ok {Q : PQ} {w : World} (h : f74 Q w) : Meets Tryz.prog 74 #[] w Q :=
 sound' (c := Tryz.f74.body.get rfl) [] Tryz.func74 rfl rfl (args := []) rfl (by kernel_rfl) h
def f133 (x0 x1 x2 : Value) (Q : PQ) (w : World) : Prop :=
 knew (Value.cells x2) 37 w fun v1 w2 =>
 kN x0 <|
 kfld 2 x0 fun v3 =>
 kld v3 w2 fun v4 =>
 kcall Tryz.prog 157 #[v4, x1] w2 fun v5 w6 =>
 kext v5 0 fun v7 =>
 kext v5 1 fun v8 =>
 kN x0 <|
 kfld 2 x0 fun v9 =>
 kld v9 w6 fun v10 =>
 kbldS [.int .i64 0] 1 [(0, 1, x1)] 3 w6 fun v11 w12 =>
 kcall Tryz.prog 158 #[v10, v7, v11] w12 fun v13 w14 =>
 kN x0 <|
 kfld 2 x0 fun v15 =>
 kst 1 v15 v13 w14 fun w16 =>
 kN x0 <|
 kfld 0 x0 fun v17 =>
 kld v17 w16.drew fun v18 =>
 kG (w16.drew = w16.drew) <|
 kN x0 <|
 kfld 1 x0 fun v19 =>
 kld v19 w16.drew fun v20 =>
 kG (w16.drew = w16.drew) <|
 kldN 2 v1 w16.drew fun v21 =>
 kG (w16.drew = w16.drew) <|
 kldN 2 v1 w16.drew fun v22 =>
 kG (w16.drew = w16.drew) <|
 ksem Tryz.prog (Instr.mapEntry 222 v18 x1) w16.drew fun v23 w24 =>
 kG (kldN 2 v1 w24 fun v33 =>
 v33 = v22 ∧ w24 = w24) <|
 kG (kldN 2 v1 w24 fun v32 =>
 v32 = v21 ∧ w24 = w24) <|
 kext v23 1 fun v25 =>
 ksemU Tryz.prog (Instr.entryStore 222 v18 v25 v22) w24 fun _ w26 =>
 kG (kldN 2 v1 w26 fun v31 =>
 v31 = v21 ∧ w26 = w26) <|
 ksem Tryz.prog (Instr.mapEntry 223 v20 v21) w26 fun v27 w28 =>
 kext v27 1 fun v29 =>
 ksemU Tryz.prog (Instr.entryStore 223 v20 v29 x1) w28 fun _ w30 =>
 Q (.tuple #[]) w30
theorem f133_ok {x0 x1 x2 : Value} {Q : PQ} {w : World} (h : f133 x0 x1 x2 Q w) : Meets Tryz.prog 133 #[x0, x1, x2] w Q :=
 sound' (c := Tryz.f133.body.get rfl) [] Tryz.func133 rfl rfl (args := [x0, x1, x2]) rfl (by kernel_rfl) h
def f83_0 (x0 x3 : Value) (Q : PQ) (w : World) : Prop :=
 kN x0 <|
 kfld 3 x0 fun v22 =>
 kld v22 w fun v23 =>
 kN x0 <|
 kfld 3 x0 fun v24 =>
 kld v24 w fun v25 =>
 kint .i64 .add v25 (.int .i64 1) fun v26 =>
 kN x0 <|
 kfld 3 x0 fun v27 =>
 kst 1 v27 v26 w fun w28 =>
 kldN 2 x3 w28 fun v29 =>
 kcall Tryz.prog 133 #[x0, v23, v29] w28 fun v30 w31 =>
 Q (.tuple #[v23, .nilIface]) w31
def f83 (x0 x1 : Value) (Q : PQ) (w : World) : Prop :=
 knew (Value.cells x1) 37 w fun v1 w2 =>
 kldN 2 v1 w2 fun v3 =>
 kcall Tryz.prog 131 #[x0, v3] w2 fun v4 w5 =>
 kext v4 0 fun v6 =>
 kext v4 1 fun v7 =>
 keq Tryz.prog .eql 145 false true x0 (.pointer none) w5 fun v8 w9 =>
 kB v8 fun b34 => kIf b34
 (kld (.pointer (some ⟨2, 0, none⟩)) w9 fun v10 =>
 kcall Tryz.prog 132 #[v10] w9 fun v11 w12 =>
 Q (.tuple #[.int .i64 0, v11]) w12)
 (kB v7 fun b33 => kIf b33
 (kld (.pointer (some ⟨5, 0, none⟩)) w9 fun v13 =>
 kcall Tryz.prog 132 #[v13] w9 fun v14 w15 =>
 Q (.tuple #[.int .i64 0, v14]) w15)
 (kN x0 <|
 kfld 3 x0 fun v16 =>
 kld v16 w9 fun v17 =>
 kint .i64 .gtr v17 (.int .i64 1073741824) fun v18 =>
 kB v18 fun b32 => kIf b32
 (kld (.pointer (some ⟨0, 0, none⟩)) w9 fun v19 =>
 kcall Tryz.prog 132 #[v19] w9 fun v20 w21 =>
 Q (.tuple #[.int .i64 0, v20]) w21)
 (f83_0 x0 v1 Q w9)))
theorem f83_ok {x0 x1 : Value} {Q : PQ} {w : World} (h : f83 x0 x1 Q w) : Meets Tryz.prog 83 #[x0, x1] w Q :=
 sound' (c := Tryz.f83.body.get rfl) [] Tryz.func83 rfl rfl (args := [x0, x1]) rfl (by kernel_rfl) h
def f183_0 (x0 x1 x4 x6 : Value) (Q : PQ) (w : World) : Prop :=
 kN x0 <|
 kfld 2 x0 fun v25 =>
 kld v25 w fun v26 =>
 kcall Tryz.prog 157 #[v26, x1] w fun v27 w28 =>
 kext v27 0 fun v29 =>
 kext v27 1 fun v30 =>
 kN x0 <|
 kfld 2 x0 fun v31 =>
 kld v31 w28 fun v32 =>
 kint .i64 .add v29 (.int .i64 1) fun v33 =>
 kcall Tryz.prog 204 #[v32, v29, v33] w28 fun v34 w35 =>
 kN x0 <|
 kfld 2 x0 fun v36 =>
 kst 1 v36 v34 w35 fun w37 =>
 kN x0 <|
 kfld 0 x0 fun v38 =>
 kld v38 w37 fun v39 =>
 ksem Tryz.prog (Builtin.delete_ #[222, 3] 0 #[v39, x1]) w37 fun v40 w41 =>
 kN x0 <|
 kfld 1 x0 fun v42 =>
 kld v42 w41.drew fun v43 =>
 kG (w41.drew = w41.drew) <|
 kldN 2 x6 w41.drew fun v44 =>
 kG (w41.drew = w41.drew) <|
 ksem Tryz.prog (Builtin.delete_ #[223, 37] 0 #[v43, v44]) w41.drew fun v45 w46 =>
 kldN 2 x6 w46 fun v47 =>
 kst 2 x4 v47 w46 fun w48 =>
 kldN 2 x4 w48 fun v49 =>
 Q (.tuple #[v49, .nilIface]) w48
def f183 (x0 x1 : Value) (Q : PQ) (w : World) : Prop :=
 knew #[.int .i64 0, .int .i64 0] 37 w fun v1 w2 =>
 kcall Tryz.prog 138 #[x0, x1] w2 fun v3 w4 =>
 kext v3 0 fun v5 =>
 kext v3 1 fun v6 =>
 knew #[.int .i64 0, .int .i64 0] 37 w4 fun v7 w8 =>
 kst 2 v7 v5 w8 fun w9 =>
 keq Tryz.prog .eql 145 false true x0 (.pointer none) w9 fun v10 w11 =>
 kB v10 fun b51 => kIf b51
 (kbld [.int .i64 0, .int .i64 0] [] fun v12 =>
 kld (.pointer (some ⟨2, 0, none⟩)) w11 fun v13 =>
 kcall Tryz.prog 132 #[v13] w11 fun v14 w15 =>
 kst 2 v1 v12 w15 fun w16 =>
 kldN 2 v1 w16 fun v17 =>
 Q (.tuple #[v17, v14]) w16)
 (kun .not (some .bool) v6 fun v18 =>
 kB v18 fun b50 => kIf b50
 (kbld [.int .i64 0, .int .i64 0] [] fun v19 =>
 kld (.pointer (some ⟨3, 0, none⟩)) w11 fun v20 =>
 kcall Tryz.prog 132 #[v20] w11 fun v21 w22 =>
 kst 2 v1 v19 w22 fun w23 =>
 kldN 2 v1 w23 fun v24 =>
 Q (.tuple #[v24, v21]) w23)
 (f183_0 x0 x1 v1 v7 Q w11))
theorem f183_ok {x0 x1 : Value} {Q : PQ} {w : World} (h : f183 x0 x1 Q w) : Meets Tryz.prog 183 #[x0, x1] w Q :=
 sound' (c := Tryz.f183.body.get rfl) [] Tryz.func183 rfl rfl (args := [x0, x1]) rfl (by kernel_rfl) h
def f138_0 (x0 x1 x4 : Value) (Q : PQ) (w : World) : Prop :=
 kN x0 <|
 kfld 0 x0 fun v8 =>
 kld v8 w fun v9 =>
 ksem Tryz.prog (Instr.lookup 222 v9 x1 true) w fun v10 w11 =>
 kext v10 0 fun v12 =>
 kext v10 1 fun v13 =>
 knew #[.int .i64 0, .int .i64 0] 37 w11 fun v14 w15 =>
 kst 2 v14 v12 w15 fun w16 =>
 kldN 2 v14 w16 fun v17 =>
 kst 2 x4 v17 w16 fun w18 =>
 kldN 2 x4 w18 fun v19 =>
 Q (.tuple #[v19, v13]) w18
def f138 (x0 x1 : Value) (Q : PQ) (w : World) : Prop :=
 knew #[.int .i64 0, .int .i64 0] 37 w fun v1 w2 =>
 keq Tryz.prog .eql 145 false true x0 (.pointer none) w2 fun v3 w4 =>
 kB v3 fun b20 => kIf b20
 (kbld [.int .i64 0, .int .i64 0] [] fun v5 =>
 kst 2 v1 v5 w4 fun w6 =>
 kldN 2 v1 w6 fun v7 =>
 Q (.tuple #[v7, .bool false]) w6)
 (f138_0 x0 x1 v1 Q w4)
theorem f138_ok {x0 x1 : Value} {Q : PQ} {w : World} (h : f138 x0 x1 Q w) : Meets Tryz.prog 138 #[x0, x1] w Q :=
 sound' (c := Tryz.f138.body.get rfl) [] Tryz.func138 rfl rfl (args := [x0, x1]) rfl (by kernel_rfl) h
def f131_0 (x0 x3 : Value) (Q : PQ) (w : World) : Prop :=
 kN x0 <|
 kfld 1 x0 fun v5 =>
 kld v5 w.drew fun v6 =>
 kG (w.drew = w.drew) <|
 kldN 2 x3 w.drew fun v7 =>
 kG (w.drew = w.drew) <|
 ksem Tryz.prog (Instr.lookup 223 v6 v7 true) w.drew fun v8 w9 =>
 kG (w9 = w.drew) <|
 kext v8 0 fun v10 =>
 kext v8 1 fun v11 =>
 Q (.tuple #[v10, v11]) w9
def f131 (x0 x1 : Value) (Q : PQ) (w : World) : Prop :=
 knew (Value.cells x1) 37 w fun v1 w2 =>
 keq Tryz.prog .eql 145 false true x0 (.pointer none) w2 fun v3 w4 =>
 kB v3 fun b12 => kIf b12
 (Q (.tuple #[.int .i64 0, .bool false]) w4)
 (f131_0 x0 v1 Q w4)
theorem f131_ok {x0 x1 : Value} {Q : PQ} {w : World} (h : f131 x0 x1 Q w) : Meets Tryz.prog 131 #[x0, x1] w Q :=
 sound' (c := Tryz.f131.body.get rfl) [] Tryz.func131 rfl rfl (args := [x0, x1]) rfl (by kernel_rfl) h
def f82_0 (x0 : Value) (Q : PQ) (w : World) : Prop :=
 kN x0 <|
 kfld 3 x0 fun v3 =>
 kld v3 w fun v4 =>
 Q v4 w
def f82 (x0 : Value) (Q : PQ) (w : World) : Prop :=
 keq Tryz.prog .eql 145 false true x0 (.pointer none) w fun v1 w2 =>
 kB v1 fun b5 => kIf b5
 (Q (.int .i64 0) w2)
 (f82_0 x0 Q w2)
theorem f82_ok {x0 : Value} {Q : PQ} {w : World} (h : f82 x0 Q w) : Meets Tryz.prog 82 #[x0] w Q :=
 sound' (c := Tryz.f82.body.get rfl) [] Tryz.func82 rfl rfl (args := [x0]) rfl (by kernel_rfl) h
def f135_0 (x0 : Value) (Q : PQ) (w : World) : Prop :=
 kN x0 <|
 kfld 2 x0 fun v3 =>
 kld v3 w fun v4 =>
 kcall Tryz.prog 137 #[v4] w fun v5 w6 =>
 Q v5 w6
def f135 (x0 : Value) (Q : PQ) (w : World) : Prop :=
 keq Tryz.prog .eql 145 false true x0 (.pointer none) w fun v1 w2 =>
 kB v1 fun b7 => kIf b7
 (Q (.slice none 0 0) w2)
 (f135_0 x0 Q w2)
theorem f135_ok {x0 : Value} {Q : PQ} {w : World} (h : f135 x0 Q w) : Meets Tryz.prog 135 #[x0] w Q :=
 sound' (c := Tryz.f135.body.get rfl) [] Tryz.func135 rfl rfl (args := [x0]) rfl (by kernel_rfl) h
def f157_1 (x0 x1 x6 x7 x8 : Value) (J3 : Value → Value → World → Prop) (Q : PQ) (w : World) : Prop :=
 kint .i64 .add x7 x8 fun v4 =>
 kcnv .u64 v4 fun v5 =>
 kint .u64 .shr v5 (.int .u64 1) fun v6 =>
 kcnv .i64 v6 fun v7 =>
 kix (some (.slice 3)) (some 1) x0 v7 fun v8 =>
 kld v8 w fun v9 =>
 kcall Tryz.prog 184 #[v9, x1] w fun v10 w11 =>
 kB v10 fun b13 => kIf b13
 (kint .i64 .add v7 (.int .i64 1) fun v12 =>
 J3 v12 x8 w11)
 (J3 x7 v7 w11)
def f157_2 (x0 x1 x6 x7 : Value) (Q : PQ) (w : World) : Prop :=
 kint .i64 .lss x7 x6 fun v14 =>
 kB v14 fun b15 => kIf b15
 (kix (some (.slice 3)) (some 1) x0 x7 fun v16 =>
 kld v16 w fun v17 =>
 kint .i64 .eql v17 x1 fun v18 =>
 kB v18 fun b19 => kIf (!b19)
 (kix (some (.slice 3)) (some 1) x0 x7 fun v20 =>
 kld v20 w fun v21 =>
 kcall Tryz.prog 185 #[v21] w fun v22 w23 =>
 kB v22 fun b24 => kIf b24
 (kcall Tryz.prog 185 #[x1] w23 fun v25 w26 =>
 Q (.tuple #[x7, v25]) w26)
 (Q (.tuple #[x7, .bool false]) w23))
 (Q (.tuple #[x7, .bool true]) w))
 (Q (.tuple #[x7, .bool false]) w)
def f157_0 (x7 x8 x0 x1 x6 : Value) (J3 : Value → Value → World → Prop) (Q : PQ) (w : World) : Prop :=
 kint .i64 .lss x7 x8 fun v3 =>
 kB v3 fun b27 => kIf b27
 (f157_1 x0 x1 x6 x7 x8 J3 Q w)
 (f157_2 x0 x1 x6 x7 Q w)
def f157 (x0 x1 : Value) (Q : PQ) (w : World) : Prop :=
 klen x0 fun v1 =>
 kL fun (I : Value → Value → World → Prop) (μ : Value → Value → World → Nat) => I (.int .i64 0) v1 w ∧ ∀ (x7 x8 : Value) (w1 : World), I x7 x8 w1 →
 f157_0 x7 x8 x0 x1 v1 (fun y7 y8 w2 => I y7 y8 w2 ∧ μ y7 y8 w2 < μ x7 x8 w1) Q w1
theorem f157_ok {x0 x1 : Value} {Q : PQ} {w : World} (h : f157 x0 x1 Q w) : Meets Tryz.prog 157 #[x0, x1] w Q :=
 sound' (c := Tryz.f157.body.get rfl) [(3, [7, 8])] Tryz.func157 rfl rfl (args := [x0, x1]) rfl (by kernel_rfl) h
def f158_3 (x0 x1 x2 x7 x8 : Value) (Q : PQ) (w : World) : Prop :=
 ksl (some (.slice 3)) (some 1) x0 (some x8) none fun v42 =>
 ksem Tryz.prog (Builtin.copy_ #[85, 85] 0 #[v42, x2]) w fun v43 w44 =>
 ksl (some (.slice 3)) (some 1) x0 (some x1) none fun v45 =>
 kcall Tryz.prog 187 #[v45, x7] w44 fun v46 w47 =>
 Q x0 w47
def f158_2 (x0 x1 x2 x7 x8 : Value) (Q : PQ) (w : World) : Prop :=
 kint .i64 .add x8 x7 fun v27 =>
 ksl (some (.slice 3)) (some 1) x0 none (some v27) fun v28 =>
 kint .i64 .add x1 x7 fun v29 =>
 ksl (some (.slice 3)) (some 1) v28 (some v29) none fun v30 =>
 kextf Tryz.prog 186 [x2, v30] w fun v31 w32 =>
 kun .not (some .bool) v31 fun v33 =>
 kB v33 fun b48 => kIf b48
 (kint .i64 .add x1 x7 fun v34 =>
 ksl (some (.slice 3)) (some 1) v28 (some v34) none fun v35 =>
 ksl (some (.slice 3)) (some 1) v28 (some x1) none fun v36 =>
 ksem Tryz.prog (Builtin.copy_ #[85, 85] 0 #[v35, v36]) w32.drew fun v37 w38 =>
 ksl (some (.slice 3)) (some 1) v28 (some x1) none fun v39 =>
 ksem Tryz.prog (Builtin.copy_ #[85, 85] 0 #[v39, x2]) w38 fun v40 w41 =>
 Q v28 w41)
 (f158_3 v28 x1 x2 x7 x8 Q w32)
def f158_1 (x0 x1 x2 x7 x8 : Value) (Q : PQ) (w : World) : Prop :=
 kint .i64 .add x8 x7 fun v10 =>
 kcap x0 fun v11 =>
 kint .i64 .gtr v10 v11 fun v13 =>
 kB v13 fun b49 => kIf b49
 (ksl (some (.slice 3)) (some 1) x0 none (some x1) fun v14 =>
 kint .i64 .add x8 x7 fun v15 =>
 kint .i64 .sub v15 x1 fun v16 =>
 ksem Tryz.prog (Builtin.append_ #[85, 3] 0 #[v14, v16]) w fun v17 w18 =>
 ksl (some (.slice 3)) (some 1) v17 (some x1) none fun v19 =>
 ksem Tryz.prog (Builtin.copy_ #[85, 85] 0 #[v19, x2]) w18 fun v20 w21 =>
 kint .i64 .add x1 x7 fun v22 =>
 ksl (some (.slice 3)) (some 1) v17 (some v22) none fun v23 =>
 ksl (some (.slice 3)) (some 1) x0 (some x1) none fun v24 =>
 ksem Tryz.prog (Builtin.copy_ #[85, 85] 0 #[v23, v24]) w21.drew fun v25 w26 =>
 Q v17 w26)
 (f158_2 x0 x1 x2 x7 x8 Q w)
def f158_0 (x0 x1 x2 x7 : Value) (Q : PQ) (w : World) : Prop :=
 klen x0 fun v5 =>
 kint .i64 .eql x1 v5 fun v7 =>
 kB v7 fun b50 => kIf b50
 (ksem Tryz.prog (Builtin.append_ #[85, 85] 0 #[x0, x2]) w fun v8 w9 =>
 Q v8 w9)
 (f158_1 x0 x1 x2 x7 v5 Q w)
def f158 (x0 x1 x2 : Value) (Q : PQ) (w : World) : Prop :=
 ksl (some (.slice 3)) (some 1) x0 (some x1) none fun v1 =>
 klen x2 fun v2 =>
 kint .i64 .eql v2 (.int .i64 0) fun v4 =>
 kB v4 fun b51 => kIf b51
 (Q x0 w)
 (f158_0 x0 x1 x2 v2 Q w)
theorem f158_ok {x0 x1 x2 : Value} {Q : PQ} {w : World} (h : f158 x0 x1 x2 Q w) : Meets Tryz.prog 158 #[x0, x1, x2] w Q :=
 sound' (c := Tryz.f158.body.get rfl) [] Tryz.func158 rfl rfl (args := [x0, x1, x2]) rfl (by kernel_rfl) h
def f185 (x0 : Value) (Q : PQ) (w : World) : Prop :=
 kint .i64 .neq x0 x0 fun v1 =>
 Q v1 w
theorem f185_ok {x0 : Value} {Q : PQ} {w : World} (h : f185 x0 Q w) : Meets Tryz.prog 185 #[x0] w Q :=
 sound' (c := Tryz.f185.body.get rfl) [] Tryz.func185 rfl rfl (args := [x0]) rfl (by kernel_rfl) h
def f137_0 (x0 : Value) (Q : PQ) (w : World) : Prop :=
 kbldS [.int .i64 0] 0 [] 3 w fun v3 w4 =>
 ksem Tryz.prog (Builtin.append_ #[85, 85] 0 #[v3, x0]) w4 fun v5 w6 =>
 Q v5 w6
def f137 (x0 : Value) (Q : PQ) (w : World) : Prop :=
 keq Tryz.prog .eql 85 false true x0 (.slice none 0 0) w fun v1 w2 =>
 kB v1 fun b7 => kIf b7
 (Q (.slice none 0 0) w2)
 (f137_0 x0 Q w2)
theorem f137_ok {x0 : Value} {Q : PQ} {w : World} (h : f137 x0 Q w) : Meets Tryz.prog 137 #[x0] w Q :=
 sound' (c := Tryz.f137.body.get rfl) [] Tryz.func137 rfl rfl (args := [x0]) rfl (by kernel_rfl) h
def f184 (x0 x1 : Value) (Q : PQ) (w : World) : Prop :=
 kcall Tryz.prog 153 #[x0] w fun v1 w2 =>
 kB v1 fun b3 => kIf b3
 (kcall Tryz.prog 153 #[x1] w2 fun v4 w5 =>
 kun .not (some .bool) v4 fun v6 =>
 kB v6 fun b7 => kIf (!b7)
 (kint .i64 .lss x0 x1 fun v8 =>
 Q v8 w5)
 (Q (.bool true) w5))
 (kint .i64 .lss x0 x1 fun v9 =>
 Q v9 w2)
theorem f184_ok {x0 x1 : Value} {Q : PQ} {w : World} (h : f184 x0 x1 Q w) : Meets Tryz.prog 184 #[x0, x1] w Q :=
 sound' (c := Tryz.f184.body.get rfl) [] Tryz.func184 rfl rfl (args := [x0, x1]) rfl (by kernel_rfl) h
end
section
attribute [local irreducible] kO kB kStr kInt kN kG kIf kfld kld kldN kst knew kmap kbld kbldS kext kcnv klenStr klen kcap kprt kprtN kbool kint kstr keq kun ksl kix kiv kta kmk kmm ksem ksemU kextf kcallV kcallM kcall kL
def intF (n : Int) : Value := .int .i64 n
theorem ptBad : isPtrT Tryz.prog 145 = true := by kernel_rfl
theorem zEnt0 : zeroO Tryz.prog 37 = some (entV 0 0) := by kernel_rfl
theorem zInt0 : zeroO Tryz.prog 3 = some (.int .i64 0) := by kernel_rfl
theorem less_spec (x y : Int) (w : World) : Meets Tryz.prog 184 #[.int .i64 x, .int .i64 y] w fun v w' => v = .bool (decide (x < y)) ∧ w' = w := by
 refine f184_ok ?_
 unfold f184
 refine kcall_of (isNaN_spec x w) ?_
 rintro v w' ⟨rfl, rfl⟩
 refine kB_at ?_
 refine kIf_F rfl ?_
 refine lss_at ?_
 exact ⟨rfl, rfl⟩
theorem apNums : appT Tryz.prog 85 1 8 = true := by kernel_rfl
theorem slNums_is : ∃ e, Tryz.prog.underlying 85 = some (.slice e) := slT_of (by kernel_rfl)
theorem insert_end {w : World} {sv : Value} {vs : List Value} (hO : Own w sv 1 vs) (hn : vs.length ≤ 1000) {bb : Nat} {x : Int} {t : TypeId} (hb : blk w bb = some (.cells #[.int .i64 x] t)) :
  Meets Tryz.prog 158 #[sv, natV vs.length, .slice (some ⟨bb, 0, none⟩) 1 1] w fun v w' => Own w' v 1 (vs ++ [.int .i64 x]) ∧ Mod (vblk sv) w w' ∧ ∀ k, vblk v k → vblk sv k ∨ w.heap.size ≤ k := by
 have hO' := hO
 obtain ⟨a, n, c, rfl, h1, h2, h3, h4⟩ := hO
 have h1 : n = vs.length := by omega
 subst h1
 rw [natV]
 refine f158_ok ?_
 unfold f158
 rw [ksl_slice rfl rfl]
 refine kG_of (by simp only [loV_int, hiV_none]; omega) ?_
 refine klen_at ?_
 refine eql_at ?_
 rw [decF (by omega)]
 refine kB_at ?_
 refine kIf_F rfl ?_
 unfold f158_0
 refine klen_at ?_
 refine eql_at ?_
 rw [decT rfl]
 refine kB_at ?_
 refine kIf_T rfl ?_
 refine ksem_append apNums (by omega) hO' (Src.ofSlIs (hk := slNums_is.choose_spec) 1 (SlIs.blk hb rfl) rfl) (by simp; omega) (by simp; omega) ?_
 intro v' w' ho hm hf
 exact ⟨ho, hm, hf⟩
theorem own_cells {w : World} {v : Value} {sz : Nat} {vs : List Value} (h : Own w v sz vs) {b : Nat} (hb : vblk v b) : ∃ arr t, blk w b = some (.cells arr t) := by
 obtain ⟨a, n, c, rfl, h1, h2, h3, h4⟩ := h
 obtain ⟨o, n', c', e⟩ := hb
 cases e
 rcases h4 with ⟨h4, _⟩ | ⟨b', arr, t, e, hb, _⟩
 ·cases h4
 ·cases e; exact ⟨arr, t, hb⟩
theorem keyInt' : KeyT Tryz.prog 3 intF := keyInt
theorem isNaNs_spec (x : Int) (w : World) : Meets Tryz.prog 185 #[.int .i64 x] w fun v w' => v = .bool false ∧ w' = w := by
 refine f185_ok ?_
 unfold f185
 refine neq_at ?_
 rw [decF (by simp)]
 exact ⟨rfl, rfl⟩
end
end Go.Proofs.YtmidldeaapdjoaaGreatDoor
namespace Go.Ev
open Go Go.RowKit
section
theorem findNow_congr (kind : TypeDesc) (k : Value) : ∀ (es es' : List MapEntry) (j : Nat), es.map (fun e => (e.key, e.val)) = es'.map (fun e => (e.key, e.val)) → Instr.findNow kind k es j = Instr.findNow kind k es' j
 | [], [], _, _ => rfl
 | [], _ :: _, _, h => by cases h
 | _ :: _, [], _, h => by cases h
 | e :: es, e' :: es', j, h => by
  simp only [List.map_cons, List.cons.injEq, Prod.mk.injEq] at h
  simp only [Instr.findNow, h.1.1, h.1.2, findNow_congr kind k es es' (j + 1) h.2]
theorem findAsking_congr (t : TypeId) (k : Value) : ∀ (es es' : List MapEntry) (j : Nat), es.map (fun e => (e.key, e.val)) = es'.map (fun e => (e.key, e.val)) → Instr.findAsking t k es j = Instr.findAsking t k es' j
 | [], [], _, _ => rfl
 | [], _ :: _, _, h => by cases h
 | _ :: _, [], _, h => by cases h
 | e :: es, e' :: es', j, h => by
  simp only [List.map_cons, List.cons.injEq, Prod.mk.injEq] at h
  simp only [Instr.findAsking, h.1.1, h.1.2, findAsking_congr t k es es' (j + 1) h.2]
theorem findKey_congr (t : TypeId) (k : Value) (es es' : List MapEntry) (h : es.map (fun e => (e.key, e.val)) = es'.map (fun e => (e.key, e.val))) : Instr.findKey t k es = Instr.findKey t k es' := by
 unfold Instr.findKey
 simp only [fun kind => findNow_congr kind k es es' 0 h, findAsking_congr t k es es' 0 h]
theorem entsG_kv {β : Type} {F : β → Value} : ∀ (i : Nat) (kv : List (β × Value)), (entsG F i kv).map (fun e => (e.key, e.val)) = kv.map fun x => (F x.1, x.2)
 | _, [] => rfl
 | i, (n, v) :: r => by simp [entsG, entsG_kv (i + 1) r]
theorem eraseIdx_mapE {α β : Type} (f : α → β) : ∀ (l : List α) (i : Nat), (l.eraseIdx i).map f = (l.map f).eraseIdx i
 | [], _ => rfl
 | _ :: _, 0 => rfl
 | x :: l, i + 1 => by simp [List.eraseIdx_cons_succ, eraseIdx_mapE f l i]
structure EntsE {β : Type} (F : β → Value) (es : List MapEntry) (cl : Nat) (kv : List (β × Value)) : Prop where
 kv : es.map (fun e => (e.key, e.val)) = kv.map fun x => (F x.1, x.2)
 nd : (es.map (·.born)).Nodup
 lt : ∀ e ∈ es, e.born < cl
theorem EntsE.len {β : Type} {F : β → Value} {es : List MapEntry} {cl : Nat} {kv : List (β × Value)} (h : EntsE F es cl kv) : es.length = kv.length := by
 have := congrArg List.length h.kv
 simpa using this
theorem EntsE.get {β : Type} {F : β → Value} {es : List MapEntry} {cl : Nat} {kv : List (β × Value)} (h : EntsE F es cl kv) {i : Nat} {n : β} {v : Value} (hi : kv[i]? = some (n, v)) : ∃ bn, es[i]? = some { key := F n, val := v, born := bn } := by
 have h1 := congrArg (fun l : List (Value × Value) => l[i]?) h.kv
 simp only [List.getElem?_map, hi, Option.map_some] at h1
 cases he : es[i]? with
 | none => rw [he] at h1; cases h1
 | some e =>
  rw [he] at h1
  simp only [Option.map_some, Option.some.injEq, Prod.mk.injEq] at h1
  refine ⟨e.born, ?_⟩
  cases e
  simp only at h1
  rw [h1.1, h1.2]
def MapV {β : Type} [DecidableEq β] (F : β → Value) (w : World) (b : Nat) (f : β → Option Value) : Prop :=
 ∃ es cl kv, Ev.blk w b = some (.map (List.toArray es) cl) ∧ EntsE F es cl kv ∧ (kv.map (·.1)).Nodup ∧ ∀ n, valG n kv = f n
theorem MapV.mod {β : Type} [DecidableEq β] {F : β → Value} {w : World} {b : Nat} {f : β → Option Value} {fp : Nat → Prop} {w' : World} (h : MapV F w b f) (hm : Mod fp w w') (hf : ¬ fp b) : MapV F w' b f := by
 obtain ⟨es, cl, kv, h1, h2⟩ := h
 exact ⟨es, cl, kv, hm.get h1 hf, h2⟩
theorem MapV.same {β : Type} [DecidableEq β] {F : β → Value} {w : World} {b : Nat} {f : β → Option Value} {w' : World} (h : MapV F w b f) (hm : Same w w') : MapV F w' b f := h.mod hm fun h => h
theorem MapV.lt {β : Type} [DecidableEq β] {F : β → Value} {w : World} {b : Nat} {f : β → Option Value} (h : MapV F w b f) : b < w.heap.size := by
 obtain ⟨es, cl, kv, h1, h2⟩ := h
 exact lt_of_blk h1
theorem MapV.cells {β : Type} [DecidableEq β] {F : β → Value} {w : World} {b : Nat} {f : β → Option Value} (h : MapV F w b f) {cs : Array Value} {t : TypeId} {z : Nat × Nat} (hb : Ev.blk w b = some (.cells cs t z)) : False := by
 obtain ⟨es, cl, kv, h1, h2⟩ := h
 rw [hb] at h1; cases h1
theorem MapV.new {β : Type} [DecidableEq β] {F : β → Value} {w : World} {b : Nat} (h : Ev.blk w b = some (.map #[] 0)) : MapV F w b fun _ => none :=
 ⟨[], 0, [], h, ⟨rfl, List.nodup_nil, fun e he => by cases he⟩, List.nodup_nil, fun n => rfl⟩
section
variable {P : Program} {kt : TypeId}
theorem findKeyE {α : Type} [DecidableEq α] {F : α → Value} (hK : KeyT P kt F) (n : α) (w : World) {es : List MapEntry} {cl : Nat} {kv : List (α × Value)} (h : EntsE F es cl kv) : (Instr.findKey kt (F n) es).run P w = .ok (lkG n kv) w := by
 rw [findKey_congr kt (F n) es (entsG F 0 kv) (by rw [h.kv, entsG_kv])]
 exact hK.find n kv w
theorem run_lookupV {α : Type} [DecidableEq α] {F : α → Value} {w : World} {t vt : TypeId} {z : Value} (ht : P.underlying t = some (.map kt vt)) (hK : KeyT P kt F) (hz : zeroO P vt = some z) {b : Nat} {f : α → Option Value} (hm : MapV F w b f) (n : α) (ok : Bool) :
  (Instr.lookup t (.map (some b)) (F n) ok).run P w = .ok (match f n with | some v => if ok then .tuple #[v, .bool true] else v | none => if ok then .tuple #[z, .bool false] else z) w := by
 obtain ⟨es, cl, kv, hb, he, _, hf⟩ := hm
 have hh : w.heap[b]? = some (.map es.toArray cl) := hb
 rw [← hf]
 simp only [Instr.lookup, Sem.run_bind, run_underlying ht, getObj, Sem.run, hh, Result.andThen, hK.check, findKeyE hK n w he, Sem.run_pure, valG]
 cases lkG n kv with
 | none => cases ok <;> simp [Sem.run, run_zero' hz]
 | some x => cases ok <;> simp [Sem.run]
theorem klookOkV {α : Type} [DecidableEq α] {F : α → Value} {w : World} {t vt : TypeId} {z : Value} (ht : P.underlying t = some (.map kt vt)) (hK : KeyT P kt F) (hz : zeroO P vt = some z) {b : Nat} {f : α → Option Value} (hm : MapV F w b f) (n : α) {K : Value → World → Prop}
  (h : K (.tuple #[(f n).getD z, .bool (f n).isSome]) w) : ksem P (Instr.lookup t (.map (some b)) (F n) true) w K := by
 rw [ksem_ok (run_lookupV ht hK hz hm n true)]
 cases hv : f n with
 | none => rw [hv] at h; exact h
 | some x => rw [hv] at h; exact h
def MapP {α : Type} [DecidableEq α] (F : α → Value) (w : World) (b : Nat) (f : α → Option Value) (n : α) (s : Nat) : Prop :=
 ∃ (es : List MapEntry) (cl : Nat) (kv : List (α × Value)) (j : Nat), Ev.blk w b = some (.map (List.toArray es) cl) ∧ EntsE F es cl kv ∧ (kv.map (·.1)).Nodup ∧ (∀ m, m ≠ n → valG m kv = f m) ∧ (∃ u, kv[j]? = some (n, u)) ∧ (es[j]?).map (fun e : MapEntry => e.born) = some s
theorem modify_key_id {es : List MapEntry} {i : Nat} {k v : Value} {bn : Nat} (h : es[i]? = some { key := k, val := v, born := bn }) : (es.modify i fun e => { e with key := k }) = es := by
 apply List.ext_getElem?
 intro j
 rw [List.getElem?_modify]
 by_cases hj : i = j
 ·subst hj
  rw [h]
  simp
 ·simp [hj]
theorem kmapEntryV {α : Type} [DecidableEq α] {F : α → Value} {w : World} {t vt : TypeId} {z : Value} (ht : P.underlying t = some (.map kt vt)) (hK : KeyT P kt F) (hz : zeroO P vt = some z) {b : Nat} {f : α → Option Value} (hm : MapV F w b f) (n : α) {K : Value → World → Prop}
  (h : ∀ w2 s, Mod (fun j => j = b) w w2 → w2.heap.size = w.heap.size → MapP F w2 b f n s → K (.tuple #[(f n).getD z, .int .i64 (s : Nat)]) w2) : ksem P (Instr.mapEntry t (.map (some b)) (F n)) w K := by
 obtain ⟨es, cl, kv, hb, he, hnd, hf⟩ := hm
 have hh : w.heap[b]? = some (.map es.toArray cl) := hb
 cases hl : lkG n kv with
 | none =>
  have hr : (Instr.mapEntry t (.map (some b)) (F n)).run P w = .ok (.tuple #[z, .int .i64 cl]) (World.setBlk w b (.map (es ++ [({ key := F n, val := z, born := cl } : MapEntry)]).toArray (cl + 1))) := by
   simp only [Instr.mapEntry, Sem.run_bind, run_underlying ht, getObj, Sem.run, hh, Result.andThen, hK.check, findKeyE hK n w he, Sem.run_pure, setObj, hl]
   simp [World.setBlk, Sem.run, hh, run_zero' hz, goInt]
  rw [ksem_ok hr]
  have hfn : f n = none := by rw [← hf]; unfold valG; rw [hl]; rfl
  have := h (World.setBlk w b (.map (es ++ [({ key := F n, val := z, born := cl } : MapEntry)]).toArray (cl + 1))) cl ((Mod.refl _ _).setBlk _ (.inl rfl)) (setBlk_size _ _ _)
   ⟨es ++ [({ key := F n, val := z, born := cl } : MapEntry)], cl + 1, kv ++ [(n, z)], es.length, by rw [setBlk_heap, if_pos rfl, hb]; rfl, ⟨by rw [List.map_append, List.map_append, he.kv]; rfl, ?_, fun e hmem => ?_⟩, ?_, fun m hmn => ?_, ⟨z, by rw [he.len]; simp⟩, by simp⟩
  ·rw [hfn] at this; exact this
  ·rw [List.map_append]
   refine List.nodup_append.2 ⟨he.nd, by simp, fun x hx y hy e => ?_⟩
   obtain ⟨e1, h1, rfl⟩ := List.mem_map.1 hx
   have := he.lt _ h1
   simp at hy
   omega
  ·rcases List.mem_append.1 hmem with h1 | h1
   ·have := he.lt _ h1; omega
   ·have : e = { key := F n, val := z, born := cl } := by simpa using h1
    rw [this]; simp
  ·rw [← putG_new hl]
   exact putG_nodup hnd
  ·rw [← putG_new hl, valG_put, if_neg hmn]
   exact hf m
 | some x =>
  obtain ⟨i, u⟩ := x
  have hi := lkG_some hl
  obtain ⟨bn, hg⟩ := he.get hi
  have hr : (Instr.mapEntry t (.map (some b)) (F n)).run P w = .ok (.tuple #[u, .int .i64 bn]) (World.setBlk w b (.map es.toArray cl)) := by
   have hget : es.toArray[i]? = some { key := F n, val := u, born := bn } := by rw [List.getElem?_toArray]; exact hg
   simp only [Instr.mapEntry, Sem.run_bind, run_underlying ht, getObj, Sem.run, hh, Result.andThen, hK.check, findKeyE hK n w he, Sem.run_pure, setObj, hl, hget, Option.map_some, Option.getD_some, keyStaysG hK]
   have e1 := modify_key_id hg
   simp [World.setBlk, Sem.run, hh, goInt, e1]
  rw [ksem_ok hr]
  have hfn : f n = some u := by rw [← hf]; unfold valG; rw [hl]; rfl
  have := h (World.setBlk w b (.map es.toArray cl)) bn ((Mod.refl _ _).setBlk _ (.inl rfl)) (setBlk_size _ _ _)
   ⟨es, cl, kv, i, by rw [setBlk_heap, if_pos rfl, hb]; rfl, he, hnd, fun m _ => hf m, ⟨u, hi⟩, by rw [hg]; rfl⟩
  rw [hfn] at this
  exact this
theorem born_idx {es : List MapEntry} (hnd : (es.map (·.born)).Nodup) {j s : Nat} (hj : (es[j]?).map (·.born) = some s) : es.findIdx? (fun e => (e.born : Int) == (s : Int)) = some j := by
 obtain ⟨e, he, rfl⟩ := Option.map_eq_some_iff.1 hj
 obtain ⟨hjl, hje⟩ := List.getElem?_eq_some_iff.1 he
 rw [List.findIdx?_eq_some_iff_getElem]
 refine ⟨hjl, by rw [hje]; simp, fun i hi => ?_⟩
 simp only [Bool.not_eq_true, beq_eq_false_iff_ne, ne_eq]
 intro e2
 have h1 : (es.map (·.born))[i]? = some e.born := by rw [List.getElem?_map, List.getElem?_eq_getElem (by omega)]; simp; omega
 have h2 : (es.map (·.born))[j]? = some e.born := by rw [List.getElem?_map, he]; rfl
 have hil : i < (es.map (·.born)).length := by simp; omega
 have := (List.getElem?_inj hil hnd).1 (h1.trans h2.symm)
 omega
theorem kentryStoreV {α : Type} [DecidableEq α] {F : α → Value} {w : World} {t : TypeId} {b : Nat} {f : α → Option Value} {n : α} {s : Nat} (hm : MapP F w b f n s) {v : Value} {K : Value → World → Prop}
  (h : ∀ w2, Mod (fun j => j = b) w w2 → w2.heap.size = w.heap.size → MapV F w2 b (fun m => if m = n then some v else f m) → K undef w2) : ksemU P (Instr.entryStore t (.map (some b)) (.int .i64 s) v) w K := by
 obtain ⟨es, cl, kv, j, hb, he, hnd, hf, ⟨u, hj⟩, hs⟩ := hm
 have hh : w.heap[b]? = some (.map es.toArray cl) := hb
 have hfi := born_idx he.nd hs
 have hr : (Instr.entryStore t (.map (some b)) (.int .i64 s) v).run P w = .ok () (World.setBlk w b (.map (es.modify j fun e => { e with val := v }).toArray cl)) := by
  simp only [Instr.entryStore, Sem.run_bind, getObj, Sem.run, hh, Result.andThen, Sem.run_pure, setObj, asInt]
  simp [World.setBlk, Sem.run, hh, asIntOf, hfi]
 rw [ksemU_ok hr]
 obtain ⟨bn, hg⟩ := he.get hj
 have hjl := (List.getElem?_eq_some_iff.1 hj).1
 refine h _ ((Mod.refl _ _).setBlk _ (.inl rfl)) (setBlk_size _ _ _) ⟨_, cl, kv.set j (n, v), by rw [setBlk_heap, if_pos rfl, hb]; rfl, ⟨?_, ?_, fun e hmem => ?_⟩, ?_, fun m => ?_⟩
 ·apply List.ext_getElem?
  intro k
  have hk := congrArg (fun l : List (Value × Value) => l[k]?) he.kv
  simp only [List.getElem?_map] at hk
  rw [List.getElem?_map, List.getElem?_map, List.getElem?_modify, List.getElem?_set]
  by_cases hjk : j = k
  ·subst hjk
   simp [hg, hjl]
  ·simp only [hjk, if_false, id_eq]
   simpa using hk
 ·have : (es.modify j fun e => { e with val := v }).map (·.born) = es.map (·.born) := by
   apply List.ext_getElem?
   intro k
   rw [List.getElem?_map, List.getElem?_map, List.getElem?_modify]
   by_cases hjk : j = k
   ·subst hjk; simp [hg]
   ·simp [hjk]
  rw [this]; exact he.nd
 ·obtain ⟨k, hk⟩ := List.mem_iff_getElem?.1 hmem
  rw [List.getElem?_modify] at hk
  by_cases hjk : j = k
  ·subst hjk
   rw [hg] at hk
   simp at hk
   rw [← hk]
   show bn < cl
   have := he.lt _ (List.mem_of_getElem? hg)
   exact this
  ·simp only [hjk, if_false] at hk
   exact he.lt _ (List.mem_of_getElem? (by simpa using hk))
 ·have : (kv.set j (n, v)).map (·.1) = kv.map (·.1) := by
   apply List.ext_getElem?
   intro k
   rw [List.getElem?_map, List.getElem?_map, List.getElem?_set]
   by_cases hjk : j = k
   ·subst hjk
    rw [if_pos rfl, if_pos hjl, hj]; rfl
   ·simp [hjk]
  rw [this]; exact hnd
 ·have hl : ∃ y, lkG n kv = some (j, y) := by
   cases hl : lkG n kv with
   | none => exact absurd (List.mem_map.2 ⟨_, List.mem_of_getElem? hj, rfl⟩) (lkG_none.1 hl)
   | some x =>
    obtain ⟨i, y⟩ := x
    have hi := lkG_some hl
    have hil := (List.getElem?_eq_some_iff.1 hi).1
    have h1 : (kv.map (·.1))[i]? = some n := by rw [List.getElem?_map, hi]; rfl
    have h2 : (kv.map (·.1))[j]? = some n := by rw [List.getElem?_map, hj]; rfl
    have := (List.getElem?_inj (by simpa using hil) hnd).1 (h1.trans h2.symm)
    subst this
    exact ⟨y, rfl⟩
  obtain ⟨y, hl⟩ := hl
  show valG m (kv.set j (n, v)) = if m = n then some v else f m
  rw [← putG_old hl, valG_put]
  by_cases hmn : m = n
  ·rw [if_pos hmn, if_pos hmn]
  ·rw [if_neg hmn, if_neg hmn]; exact hf m hmn
theorem kdelV {α : Type} [DecidableEq α] {F : α → Value} {w : World} {t tk vt ty : TypeId} (ht : P.underlying t = some (.map kt vt)) (hK : KeyT P kt F) {b : Nat} {f : α → Option Value} (hm : MapV F w b f) (n : α) {K : Value → World → Prop}
  (h : ∀ w2, Mod (fun j => j = b) w w2 → w2.heap.size = w.heap.size → MapV F w2 b (fun m => if m = n then none else f m) → K (.tuple #[]) w2) : ksem P (Builtin.delete_ #[t, tk] ty #[.map (some b), F n]) w K := by
 obtain ⟨es, cl, kv, hb, he, hnd, hf⟩ := hm
 have hh : w.heap[b]? = some (.map es.toArray cl) := hb
 cases hl : lkG n kv with
 | none =>
  have hr : (Builtin.delete_ #[t, tk] ty #[.map (some b), F n]).run P w = .ok (.tuple #[]) (World.setBlk w b (.map es.toArray cl)) := by
   simp only [Builtin.delete_, List.getElem?_toArray, List.getElem?_cons_zero, List.getElem?_cons_succ, Sem.run_bind, run_underlying ht, getObj, Sem.run, hh, Result.andThen, hK.check, findKeyE hK n w he, Sem.run_pure, setObj, hl]
   simp [World.setBlk, Sem.run, hh]
  rw [ksem_ok hr]
  refine h _ ((Mod.refl _ _).setBlk _ (.inl rfl)) (setBlk_size _ _ _) ⟨es, cl, kv, by rw [setBlk_heap, if_pos rfl, hb]; rfl, he, hnd, fun m => ?_⟩
  show valG m kv = if m = n then none else f m
  by_cases hmn : m = n
  ·subst hmn
   rw [if_pos rfl]; unfold valG; rw [hl]; rfl
  ·rw [if_neg hmn]; exact hf m
 | some x =>
  obtain ⟨i, u⟩ := x
  have hi := lkG_some hl
  have hil := (List.getElem?_eq_some_iff.1 hi).1
  have hie : i < es.length := by rw [he.len]; exact hil
  have hr : (Builtin.delete_ #[t, tk] ty #[.map (some b), F n]).run P w = .ok (.tuple #[]) (World.setBlk w b (.map (es.eraseIdx i).toArray cl)) := by
   simp only [Builtin.delete_, List.getElem?_toArray, List.getElem?_cons_zero, List.getElem?_cons_succ, Sem.run_bind, run_underlying ht, getObj, Sem.run, hh, Result.andThen, hK.check, findKeyE hK n w he, Sem.run_pure, setObj, hl]
   have e1 : es.toArray.eraseIdxIfInBounds i = (es.eraseIdx i).toArray := by simp [Array.eraseIdxIfInBounds, hie]
   simp [World.setBlk, Sem.run, hh, e1]
  rw [ksem_ok hr]
  have hnd' : ((kv.eraseIdx i).map (·.1)).Nodup := by
   rw [eraseIdx_mapE]
   exact hnd.sublist (List.eraseIdx_sublist _ _)
  refine h _ ((Mod.refl _ _).setBlk _ (.inl rfl)) (setBlk_size _ _ _) ⟨es.eraseIdx i, cl, kv.eraseIdx i, by rw [setBlk_heap, if_pos rfl, hb]; rfl, ⟨?_, ?_, fun e hmem => he.lt e ((List.eraseIdx_sublist _ _).subset hmem)⟩, hnd', fun m => ?_⟩
  ·rw [eraseIdx_mapE, he.kv, eraseIdx_mapE]
  ·rw [eraseIdx_mapE]
   exact he.nd.sublist (List.eraseIdx_sublist _ _)
  ·show valG m (kv.eraseIdx i) = if m = n then none else f m
   rw [← hf m]
   have hni : (kv.map (·.1))[i]? = some n := by rw [List.getElem?_map, hi]; rfl
   have hkey : ∀ m, m ∈ (kv.eraseIdx i).map (·.1) ↔ m ≠ n ∧ m ∈ kv.map (·.1) := by
    intro m
    rw [eraseIdx_mapE, List.mem_eraseIdx_iff_getElem?]
    constructor
    ·rintro ⟨j, hji, hj⟩
     refine ⟨fun e => hji ?_, List.mem_of_getElem? hj⟩
     subst e
     exact (List.getElem?_inj (List.getElem?_eq_some_iff.1 hj).1 hnd).1 (hj.trans hni.symm)
    ·rintro ⟨hmn, hmem⟩
     obtain ⟨j, hj⟩ := List.mem_iff_getElem?.1 hmem
     refine ⟨j, fun e => hmn ?_, hj⟩
     subst e
     rw [hj] at hni
     exact Option.some.inj hni
   by_cases hmn : m = n
   ·subst hmn
    rw [if_pos rfl]
    unfold valG
    rw [lkG_none.2 fun hmem => ((hkey m).1 hmem).1 rfl]; rfl
   ·rw [if_neg hmn]
    cases hk : lkG m kv with
    | none =>
     have := lkG_none.1 hk
     unfold valG
     rw [hk, lkG_none.2 fun hmem => this ((hkey m).1 hmem).2]
    | some y =>
     obtain ⟨j, v⟩ := y
     have hj := lkG_some hk
     cases hk2 : lkG m (kv.eraseIdx i) with
     | none => exact absurd ((hkey m).2 ⟨hmn, List.mem_map.2 ⟨_, List.mem_of_getElem? hj, rfl⟩⟩) (lkG_none.1 hk2)
     | some y2 =>
      obtain ⟨j2, v2⟩ := y2
      have hj2 := lkG_some hk2
      have hm2 : (m, v2) ∈ kv := (List.eraseIdx_sublist _ _).subset (List.mem_of_getElem? hj2)
      obtain ⟨j3, hj3⟩ := List.mem_iff_getElem?.1 hm2
      have h1 : (kv.map (·.1))[j3]? = some m := by rw [List.getElem?_map, hj3]; rfl
      have h2 : (kv.map (·.1))[j]? = some m := by rw [List.getElem?_map, hj]; rfl
      have := (List.getElem?_inj (List.getElem?_eq_some_iff.1 h1).1 hnd).1 (h1.trans h2.symm)
      subst this
      rw [hj3] at hj
      cases hj
      unfold valG
      rw [hk, hk2]; rfl
end
end
end Go.Ev
namespace Go.Proofs.YtmidldeaapdjoaaGreatDoor
open Go Go.Ev
section
attribute [local irreducible] kO kB kStr kInt kN kG kIf kfld kld kldN kst knew kmap kbld kbldS kext kcnv klenStr klen kcap kprt kprtN kbool kint kstr keq kun ksl kix kiv kta kmk kmm ksem ksemU kextf kcallV kcallM kcall kL
theorem asc_get {l : List Int} (h : l.Pairwise (fun x y => x < y)) {i j : Nat} (hij : i < j) (hj : j < l.length) : l[i] < l[j] := (List.pairwise_iff_getElem.1 h) i j (by omega) hj hij
theorem bsearchG {w : World} {a : Option Addr} {c : Nat} {l : List Int} (hn : l.length ≤ 1000000) (hs : SlIs w a l.length 1 (l.map nV)) (hl : l.Pairwise (fun x y => x < y)) (x : Int) :
  Meets Tryz.prog 157 #[.slice a l.length c, .int .i64 x] w fun v w' => Same w w' ∧ ∃ k : Nat, k ≤ l.length ∧ (∀ i (hi : i < l.length), i < k → l[i] < x) ∧ (∀ i (hi : i < l.length), k ≤ i → x ≤ l[i]) ∧ v = .tuple #[.int .i64 k, .bool (decide (x ∈ l))] := by
 refine f157_ok ?_
 unfold f157
 refine klen_at ?_
 refine kL2_of l.length (fun r p q wr => ∃ i j : Nat, j - i + r ≤ l.length ∧ i ≤ j ∧ j ≤ l.length ∧ (∀ m (hm : m < l.length), m < i → l[m] < x) ∧ (∀ m (hm : m < l.length), j ≤ m → x ≤ l[m]) ∧ p = .int .i64 i ∧ q = .int .i64 j ∧ Same w wr) ⟨lI2_0 ⟨0, l.length, by omega, by omega, by omega, fun m _ h => by omega, fun m hm h => by omega, rfl, rfl, Mod.refl _ _⟩, fun p q wr hp => ?_⟩
 obtain ⟨r, hr, ⟨i, j, hj, hij, hjl, hlo, hhi, rfl, rfl, hm⟩, hJ⟩ := lI2_step hp
 unfold f157_0
 refine lss_at ?_
 refine kB_at ?_
 refine kIf_dec (fun hlt => ?_) (fun hge => ?_)
 ·have hlt : i < j := by omega
  unfold f157_1
  refine add_at (by omega) (by omega) ?_
  rw [kcnv_int, wrap_u64 (by omega) (by omega), kint_shr]
  refine kG_of (by omega) ?_
  have e2 : ishr .u64 ((i : Int) + (j : Int)) 1 = (((i + j) / 2 : Nat) : Int) := by
   have := shr_nat (k := .u64) (i + j) 1 (by decide)
   rw [show ((i + j : Nat) : Int) = (i : Int) + (j : Int) by omega] at this
   exact this
  rw [e2, kcnv_int, wrap_i64 (by omega) (by omega)]
  have hh1 : (i + j) / 2 < j := by omega
  have hh2 : i ≤ (i + j) / 2 := by omega
  generalize (i + j) / 2 = h at *
  have hhl : h < l.length := by omega
  refine kixld_of (F := nV) (l := l) (c := c) (hs.same hm) hhl rfl ?_
  rw [nV]
  refine kcall_of (less_spec _ _ _) ?_
  rintro v w' ⟨rfl, rfl⟩
  refine kB_at ?_
  refine kIf_dec (fun hc => ?_) (fun hc => ?_)
  ·refine add_at (by omega) (by omega) ?_
   rw [show (h : Int) + 1 = ((h + 1 : Nat) : Int) by omega]
   refine hJ _ _ _ (by omega) ⟨h + 1, j, by omega, by omega, hjl, fun m hml hmh => ?_, hhi, rfl, rfl, hm⟩
   by_cases he : m = h
   ·subst he; exact hc
   ·have := asc_get hl (show m < h by omega) hhl
    omega
  ·refine hJ _ _ _ (by omega) ⟨i, h, by omega, hh2, by omega, hlo, fun m hml hmh => ?_, rfl, rfl, hm⟩
   by_cases he : m = h
   ·subst he; omega
   ·have := asc_get hl (show h < m by omega) hml
    omega
 ·have : i = j := by omega
  subst this
  unfold f157_2
  refine lss_at ?_
  refine kB_at ?_
  refine kIf_dec (fun hlt => ?_) (fun hge => ?_)
  ·have hil : i < l.length := by omega
   have hxi := hhi i hil (Nat.le_refl _)
   refine kixld_of (F := nV) (l := l) (c := c) (hs.same hm) hil rfl ?_
   rw [nV]
   refine eql_at ?_
   refine kB_at ?_
   by_cases he : l[i] = x
   ·rw [decT he]
    refine kIf_F rfl ?_
    refine ⟨hm, i, hjl, hlo, hhi, ?_⟩
    rw [decT (he ▸ List.getElem_mem hil)]
   ·rw [decF he]
    refine kIf_T rfl ?_
    refine kixld_of (F := nV) (l := l) (c := c) (hs.same hm) hil rfl ?_
    rw [nV]
    refine kcall_of (isNaNs_spec _ _) ?_
    rintro v w' ⟨rfl, rfl⟩
    refine kB_at ?_
    refine kIf_F rfl ?_
    refine ⟨hm, i, hjl, hlo, hhi, ?_⟩
    have hx : x ∉ l := fun hmem => by
     obtain ⟨m, hml, e⟩ := List.mem_iff_getElem.1 hmem
     rcases Nat.lt_trichotomy m i with h | h | h
     ·have := hlo m hml h; omega
     ·subst h; exact he e
     ·have := asc_get hl h hml; omega
    rw [decF hx]
  ·refine ⟨hm, i, hjl, hlo, hhi, ?_⟩
   have hx : x ∉ l := fun hmem => by
    obtain ⟨m, hml, e⟩ := List.mem_iff_getElem.1 hmem
    have := hlo m hml (by omega)
    omega
   rw [decF hx]
structure BdM where
 l : List (Nat × EK)
 nx : Nat
def BdM.own (B : BdM) (n : Int) : Option Value := (B.l.find? fun x => decide (((x.1 : Nat) : Int) = n)).map fun x => x.2.v
def BdM.ids (B : BdM) (e : EK) : Option Value := (B.l.find? fun x => decide (x.2 = e)).map fun x => natV x.1
def BdM.nums (B : BdM) : List Int := B.l.map fun x => ((x.1 : Nat) : Int)
structure BdM.WF (B : BdM) : Prop where
 asc : (B.l.map (·.1)).Pairwise (fun x y => x < y)
 lt : ∀ x ∈ B.l, 1 ≤ x.1 ∧ x.1 < B.nx
 nd : (B.l.map (·.2)).Nodup
 pos : 1 ≤ B.nx
theorem BdM.WF.ascI {B : BdM} (h : B.WF) : B.nums.Pairwise (fun x y => x < y) := by
 have := h.asc
 unfold BdM.nums
 rw [List.pairwise_map] at this ⊢
 exact this.imp fun h => by omega
structure BdQ (U : Nat → Prop) (w : World) (b : Nat) (B : BdM) (bo bi : Nat) (sv : Value) : Prop where
 here : blk w b = some (.cells #[.map (some bo), .map (some bi), sv, natV B.nx] 225)
 own : MapV intF w bo B.own
 ids : MapV EK.v w bi B.ids
 nums : Own w sv 1 (B.nums.map nV)
 ub : U b
 uo : U bo
 ui : U bi
 us : ∀ k, vblk sv k → U k
 ne : bo ≠ bi
 ns : ∀ k, vblk sv k → k ≠ b
 wf : B.WF
 le : B.l.length ≤ 64
def BdAt (U : Nat → Prop) (w : World) (b : Nat) (B : BdM) : Prop := ∃ bo bi sv, BdQ U w b B bo bi sv
theorem BdQ.mod {U fp : Nat → Prop} {w w' : World} {b : Nat} {B : BdM} {bo bi : Nat} {sv : Value} (h : BdQ U w b B bo bi sv) (m : Mod fp w w') (hf : ∀ k, U k → ¬ fp k) : BdQ U w' b B bo bi sv :=
 ⟨m.get h.here (hf _ h.ub), h.own.mod m (hf _ h.uo), h.ids.mod m (hf _ h.ui), h.nums.mod m fun k hk => hf k (h.us k hk), h.ub, h.uo, h.ui, h.us, h.ne, h.ns, h.wf, h.le⟩
theorem BdAt.mod {U fp : Nat → Prop} {w w' : World} {b : Nat} {B : BdM} (h : BdAt U w b B) (m : Mod fp w w') (hf : ∀ k, U k → ¬ fp k) : BdAt U w' b B := by
 obtain ⟨bo, bi, sv, h⟩ := h
 exact ⟨bo, bi, sv, h.mod m hf⟩
theorem BdAt.same {U : Nat → Prop} {w w' : World} {b : Nat} {B : BdM} (h : BdAt U w b B) (m : Same w w') : BdAt U w' b B := h.mod m fun _ _ h => h
theorem BdAt.mono {U U' : Nat → Prop} {w : World} {b : Nat} {B : BdM} (h : BdAt U w b B) (hU : ∀ k, k < w.heap.size → U k → U' k) : BdAt U' w b B := by
 obtain ⟨bo, bi, sv, h⟩ := h
 exact ⟨bo, bi, sv, h.here, h.own, h.ids, h.nums, hU _ (lt_of_blk h.here) h.ub, hU _ h.own.lt h.uo, hU _ h.ids.lt h.ui, fun k hk => hU _ (h.nums.vblk_lt hk) (h.us k hk), h.ne, h.ns, h.wf, h.le⟩
theorem BdQ.apart {U : Nat → Prop} {w : World} {b : Nat} {B : BdM} {bo bi : Nat} {sv : Value} (h : BdQ U w b B bo bi sv) : bo ≠ b ∧ bi ≠ b ∧ ∀ k, vblk sv k → k ≠ bo ∧ k ≠ bi := by
 refine ⟨fun e => ?_, fun e => ?_, fun k hk => ?_⟩
 ·exact (e ▸ h.own).cells h.here
 ·exact (e ▸ h.ids).cells h.here
 ·obtain ⟨arr, t, hk⟩ := own_cells h.nums hk
  exact ⟨fun e => (e ▸ h.own).cells hk, fun e => (e ▸ h.ids).cells hk⟩
theorem bdNew (w : World) : Meets Tryz.prog 74 #[] w fun v w' => ∃ b, v = .pointer (some ⟨b, 0, none⟩) ∧ BdAt (fun k => w.heap.size ≤ k) w' b ⟨[], 1⟩ ∧ Same w w' := by
 refine f74_ok ?_
 unfold f74
 refine kmap_of fun w2 h2 hs2 hm2 => ?_
 refine kmap_of fun w4 h4 hs4 hm4 => ?_
 refine kbld_of (cs := [.map (some w.heap.size), .map (some w2.heap.size), .slice none 0 0, .int .i64 1]) rfl ?_
 refine knew_of fun w6 h6 hs6 hb6 => ?_
 refine ⟨w4.heap.size, rfl, ⟨w.heap.size, w2.heap.size, .slice none 0 0, hb6, ?_, ?_, Own.nil _ _, by omega, by omega, by omega, fun k hk => ?_, by omega, fun k hk => ?_, ⟨List.Pairwise.nil, (fun x hx => by cases hx), List.nodup_nil, Nat.le_refl _⟩, by simp⟩, (h2.trans h4).trans h6⟩
 ·have e : blk w2 w.heap.size = some (.map #[] 0) := hm2 .i64
  exact MapV.new ((h4.trans h6).get e (fun h => h))
 ·have e : blk w4 w2.heap.size = some (.map #[] 0) := hm4 .i64
  exact MapV.new (h6.get e (fun h => h))
 ·obtain ⟨_, _, _, e⟩ := hk; cases e
 ·obtain ⟨_, _, _, e⟩ := hk; cases e
theorem bdEntity {U : Nat → Prop} {w : World} {b : Nat} {B : BdM} (h : BdAt U w b B) (x : Int) :
  Meets Tryz.prog 138 #[.pointer (some ⟨b, 0, none⟩), .int .i64 x] w fun v w' => v = .tuple #[(match B.l.find? fun y => decide (((y.1 : Nat) : Int) = x) with | some y => y.2.v | none => entV 0 0), .bool (B.l.find? fun y => decide (((y.1 : Nat) : Int) = x)).isSome] ∧ Same w w' := by
 obtain ⟨bo, bi, sv, h⟩ := h
 refine f138_ok ?_
 unfold f138
 refine knew_of fun w2 h2 hs2 hb2 => ?_
 rw [keq_ptr_nil ptBad]
 refine kB_at ?_
 refine kIf_F rfl ?_
 unfold f138_0
 have q2 := h.mod h2 (fun _ _ h => h)
 have hh := q2.here
 repeat (first | refine kN_at ?_ | refine kB_at ?_ | refine kfld_of ?_ | refine kext_at rfl ?_ | refine kld_at hh rfl ?_ | refine kldN_at hh rfl (by omega) ?_ | refine kG_of (by first | exact rfl | omega) ?_ | refine klen_at ?_ | refine eql_at ?_ | refine neq_at ?_ | refine lss_at ?_ | refine leq_at ?_ | refine gtr_at ?_ | refine geq_at ?_ | refine add_at (by omega) (by omega) ?_ | refine sub_at (by omega) (by omega) ?_ | refine not_at ?_ | refine kO_at ?_ | refine kprt_at rfl ?_ | refine kprtN_at rfl ?_ | refine kcap_at ?_ | refine klenStr_at ?_ | refine kN_iat ?_ | refine kN_fat ?_ | refine kIf_T (by first | exact rfl | exact decT (by omega) | exact notT (decF (by omega))) ?_ | refine kIf_F (by first | exact rfl | exact decF (by omega) | exact notF (decT (by omega))) ?_)
 refine klookOkV (F := intF) Tryz.underlying222 keyInt' zEnt0 q2.own x ?_
 obtain ⟨i, g, hig⟩ : ∃ i g : Int, (B.own x).getD (entV 0 0) = entV i g := by
  unfold BdM.own
  cases B.l.find? fun y => decide (((y.1 : Nat) : Int) = x) with
  | none => exact ⟨0, 0, rfl⟩
  | some y => exact ⟨y.2.i, y.2.g, rfl⟩
 have hres : (match B.l.find? fun y => decide (((y.1 : Nat) : Int) = x) with | some y => y.2.v | none => entV 0 0) = entV i g := by
  rw [← hig]
  unfold BdM.own
  cases B.l.find? fun y => decide (((y.1 : Nat) : Int) = x) <;> rfl
 have hsome : (B.own x).isSome = (B.l.find? fun y => decide (((y.1 : Nat) : Int) = x)).isSome := by unfold BdM.own; simp
 rw [hig, hres, hsome]
 have hz2 := h2.size
 repeat (first | refine kN_at ?_ | refine kB_at ?_ | refine kfld_of ?_ | refine kext_at rfl ?_ | refine kG_of (by first | exact rfl | omega) ?_ | refine klen_at ?_ | refine eql_at ?_ | refine neq_at ?_ | refine lss_at ?_ | refine leq_at ?_ | refine gtr_at ?_ | refine geq_at ?_ | refine add_at (by omega) (by omega) ?_ | refine sub_at (by omega) (by omega) ?_ | refine not_at ?_ | refine kO_at ?_ | refine kprt_at rfl ?_ | refine kprtN_at rfl ?_ | refine kcap_at ?_ | refine klenStr_at ?_ | refine kN_iat ?_ | refine kN_fat ?_ | refine kIf_T (by first | exact rfl | exact decT (by omega) | exact notT (decF (by omega))) ?_ | refine kIf_F (by first | exact rfl | exact decF (by omega) | exact notF (decT (by omega))) ?_)
 refine knew_of fun w14 h14 hs14 hb14 => ?_
 refine kst_of (vs := [.int .i64 i, .int .i64 g]) hb14 rfl rfl rfl (by simp) (by simp) fun w16 h16 hs16 hb16 => ?_
 have hb16 : blk w16 w2.heap.size = some (.cells #[.int .i64 i, .int .i64 g] 37) := hb16
 refine kldN_at (cs := [.int .i64 i, .int .i64 g]) hb16 rfl (by omega) ?_
 have m14 : Same w w14 := h2.trans h14
 have m16 : Same w w16 := m14.trans' (h16.mono fun k _ e => .inr (by omega))
 have hb2' : ∃ arr, blk w16 w.heap.size = some (.cells arr 37) ∧ arr.size = 2 := ⟨_, h16.get (h14.get hb2 (fun h => h)) (by omega), rfl⟩
 obtain ⟨arr, hb2', ha2⟩ := hb2'
 refine kst_of (vs := [.int .i64 i, .int .i64 g]) hb2' rfl rfl rfl (by omega) (by simp) fun w18 h18 hs18 hb18 => ?_
 have hb18 : blk w18 w.heap.size = some (.cells (setAll [.int .i64 i, .int .i64 g] arr 0) 37) := hb18
 have e18 : segL (setAll [Value.int .i64 i, .int .i64 g] arr 0).toList 0 2 = some [.int .i64 i, .int .i64 g] := by
  have hal : arr = #[arr[0], arr[1]] := by
   apply Array.ext
   ·simp [ha2]
   ·intro i h1 h2
    have : i = 0 ∨ i = 1 := by omega
    rcases this with rfl | rfl <;> simp
  rw [hal]; rfl
 refine kldN_at (cs := [.int .i64 i, .int .i64 g]) hb18 e18 (by omega) ?_
 exact ⟨rfl, m16.trans' (h18.mono fun k _ e => .inr (by omega))⟩
theorem bdID {U : Nat → Prop} {w : World} {b : Nat} {B : BdM} (h : BdAt U w b B) (e : EK) :
  Meets Tryz.prog 131 #[.pointer (some ⟨b, 0, none⟩), e.v] w fun v w' => v = .tuple #[(B.ids e).getD (.int .i64 0), .bool (B.ids e).isSome] ∧ Same w w' := by
 obtain ⟨bo, bi, sv, h⟩ := h
 refine f131_ok ?_
 unfold f131
 refine knew_of fun w2 hm2 hs2 hb2 => ?_
 have hb2 : blk w2.drew w.heap.size = some (.cells #[.int .i64 e.i, .int .i64 e.g] 37) := hb2
 rw [keq_ptr_nil ptBad]
 refine kB_at ?_
 refine kIf_F rfl ?_
 unfold f131_0
 have m2 : Same w w2.drew := hm2.drew
 have h2 := h.mod m2 (fun _ _ h => h)
 generalize w2.drew = wa at *
 have hh := h2.here
 repeat (first | refine kN_at ?_ | refine kB_at ?_ | refine kfld_of ?_ | refine kext_at rfl ?_ | refine kld_at hh rfl ?_ | refine kldN_at hh rfl (by omega) ?_ | refine kG_of (by first | exact rfl | omega) ?_ | refine klen_at ?_ | refine eql_at ?_ | refine neq_at ?_ | refine lss_at ?_ | refine leq_at ?_ | refine gtr_at ?_ | refine geq_at ?_ | refine add_at (by omega) (by omega) ?_ | refine sub_at (by omega) (by omega) ?_ | refine not_at ?_ | refine kO_at ?_ | refine kprt_at rfl ?_ | refine kprtN_at rfl ?_ | refine kcap_at ?_ | refine klenStr_at ?_ | refine kN_iat ?_ | refine kN_fat ?_ | refine kIf_T (by first | exact rfl | exact decT (by omega) | exact notT (decF (by omega))) ?_ | refine kIf_F (by first | exact rfl | exact decF (by omega) | exact notF (decT (by omega))) ?_)
 refine kldN_at (cs := [.int .i64 e.i, .int .i64 e.g]) hb2 rfl (by omega) ?_
 refine kG_of rfl ?_
 refine klookOkV Tryz.underlying223 keyEK zInt0 h2.ids e ?_
 refine kG_of rfl ?_
 repeat (first | refine kN_at ?_ | refine kB_at ?_ | refine kfld_of ?_ | refine kext_at rfl ?_ | refine kG_of (by first | exact rfl | omega) ?_ | refine klen_at ?_ | refine eql_at ?_ | refine neq_at ?_ | refine lss_at ?_ | refine leq_at ?_ | refine gtr_at ?_ | refine geq_at ?_ | refine add_at (by omega) (by omega) ?_ | refine sub_at (by omega) (by omega) ?_ | refine not_at ?_ | refine kO_at ?_ | refine kprt_at rfl ?_ | refine kprtN_at rfl ?_ | refine kcap_at ?_ | refine klenStr_at ?_ | refine kN_iat ?_ | refine kN_fat ?_ | refine kIf_T (by first | exact rfl | exact decT (by omega) | exact notT (decF (by omega))) ?_ | refine kIf_F (by first | exact rfl | exact decF (by omega) | exact notF (decT (by omega))) ?_)
 exact ⟨rfl, m2⟩
end
section
attribute [local irreducible] kO kB kStr kInt kN kG kIf kfld kld kldN kst knew kmap kbld kbldS kext kcnv klenStr klen kcap kprt kprtN kbool kint kstr keq kun ksl kix kiv kta kmk kmm ksem ksemU kextf kcallV kcallM kcall kL
theorem find_append {α : Type} (p : α → Bool) (l : List α) (x : α) : (l ++ [x]).find? p = (l.find? p).or (if p x then some x else none) := by
 rw [List.find?_append]
 congr 1
 simp only [List.find?_cons, List.find?_nil]
 cases p x <;> rfl
theorem BdM.own_none {B : BdM} {n : Int} : B.own n = none ↔ ∀ x ∈ B.l, ((x.1 : Nat) : Int) ≠ n := by
 unfold BdM.own
 rw [Option.map_eq_none_iff, List.find?_eq_none]
 simp
theorem BdM.ids_none {B : BdM} {e : EK} : B.ids e = none ↔ ∀ x ∈ B.l, x.2 ≠ e := by
 unfold BdM.ids
 rw [Option.map_eq_none_iff, List.find?_eq_none]
 simp
theorem BdM.own_snoc (B : BdM) (n nx : Nat) (e : EK) (h : B.own n = none) : (BdM.mk (B.l ++ [(n, e)]) nx).own = fun m => if m = ((n : Nat) : Int) then some e.v else B.own m := by
 funext m
 show ((B.l ++ [(n, e)]).find? fun x => decide (((x.1 : Nat) : Int) = m)).map (fun x => x.2.v) = _
 rw [find_append]
 by_cases hm : m = ((n : Nat) : Int)
 ·subst hm
  have : (B.l.find? fun x => decide (((x.1 : Nat) : Int) = ((n : Nat) : Int))) = none := by
   unfold BdM.own at h
   exact Option.map_eq_none_iff.1 h
  rw [this, if_pos rfl]
  simp
 ·rw [if_neg hm]
  unfold BdM.own
  have : decide (((n : Nat) : Int) = m) = false := decF (fun e => hm e.symm)
  simp only [this]
  cases (B.l.find? fun x => decide (((x.1 : Nat) : Int) = m)) <;> rfl
theorem BdM.ids_snoc (B : BdM) (n nx : Nat) (e : EK) (h : B.ids e = none) : (BdM.mk (B.l ++ [(n, e)]) nx).ids = fun m => if m = e then some (natV n) else B.ids m := by
 funext m
 show ((B.l ++ [(n, e)]).find? fun x => decide (x.2 = m)).map (fun x => natV x.1) = _
 rw [find_append]
 by_cases hm : m = e
 ·subst hm
  have : (B.l.find? fun x => decide (x.2 = m)) = none := by
   unfold BdM.ids at h
   exact Option.map_eq_none_iff.1 h
  rw [this, if_pos rfl]
  simp
 ·rw [if_neg hm]
  unfold BdM.ids
  have : decide (e = m) = false := decF (fun e => hm e.symm)
  simp only [this]
  cases (B.l.find? fun x => decide (x.2 = m)) <;> rfl
theorem bdOwn {U : Nat → Prop} {w : World} {b : Nat} {B : BdM} {bo bi : Nat} {sv nx : Value} (h : BdQ U w b B bo bi sv) {w1 : World} (hb : blk w1 b = some (.cells #[.map (some bo), .map (some bi), sv, nx] 225)) (ho : MapV intF w1 bo B.own) (hi : MapV EK.v w1 bi B.ids) (hs : Own w1 sv 1 (B.nums.map nV)) (hle : B.l.length < 64) (e : EK) (he : B.ids e = none) :
  Meets Tryz.prog 133 #[.pointer (some ⟨b, 0, none⟩), natV B.nx, e.v] w1 fun v w' => v = .tuple #[] ∧ ∃ sv', blk w' b = some (.cells #[.map (some bo), .map (some bi), sv', nx] 225) ∧ MapV intF w' bo (BdM.mk (B.l ++ [(B.nx, e)]) (B.nx + 1)).own ∧ MapV EK.v w' bi (BdM.mk (B.l ++ [(B.nx, e)]) (B.nx + 1)).ids ∧
   Own w' sv' 1 ((BdM.mk (B.l ++ [(B.nx, e)]) (B.nx + 1)).nums.map nV) ∧ (∀ k, vblk sv' k → vblk sv k ∨ w1.heap.size ≤ k) ∧ Mod (fun k => k = b ∨ k = bo ∨ k = bi ∨ vblk sv k) w1 w' := by
 have hsO := hs
 obtain ⟨sa, sn, sc, rfl, hsl, hsn⟩ := hs.is
 have hsn : sn = B.nums.length := by simpa using hsn rfl
 subst hsn
 have hnl : B.nums.length = B.l.length := by unfold BdM.nums; simp
 obtain ⟨hnb, hnb2, hnv⟩ := h.apart
 have ne := h.ne
 have ns := h.ns
 have lb := lt_of_blk hb
 have lo := ho.lt
 have li := hi.lt
 rw [natV]
 refine f133_ok ?_
 unfold f133
 refine knew_of fun w2 h2 hs2 hb2 => ?_
 have he2 : blk w2 w1.heap.size = some (.cells #[.int .i64 e.i, .int .i64 e.g] 37) := hb2
 have hbw2 := h2.get hb (fun h => h)
 repeat (first | refine kN_at ?_ | refine kB_at ?_ | refine kfld_of ?_ | refine kext_at rfl ?_ | refine kld_at hbw2 rfl ?_ | refine kldN_at hbw2 rfl (by omega) ?_ | refine kG_of (by first | exact rfl | omega) ?_ | refine klen_at ?_ | refine eql_at ?_ | refine neq_at ?_ | refine lss_at ?_ | refine leq_at ?_ | refine gtr_at ?_ | refine geq_at ?_ | refine add_at (by omega) (by omega) ?_ | refine sub_at (by omega) (by omega) ?_ | refine not_at ?_ | refine kO_at ?_ | refine kprt_at rfl ?_ | refine kprtN_at rfl ?_ | refine kcap_at ?_ | refine klenStr_at ?_ | refine kN_iat ?_ | refine kN_fat ?_ | refine kIf_T (by first | exact rfl | exact decT (by omega) | exact notT (decF (by omega))) ?_ | refine kIf_F (by first | exact rfl | exact decF (by omega) | exact notF (decT (by omega))) ?_)
 refine kcall_of (bsearchG (by omega) (hsl.same h2) h.wf.ascI (B.nx : Int)) ?_
 rintro v w6 ⟨h6, k, hk, hk1, hk2, rfl⟩
 have hkl : k = B.nums.length := by
  by_cases hlt : k < B.nums.length
  ·have h1 := hk2 k hlt (Nat.le_refl _)
   have hkL : k < B.l.length := by omega
   have h2 : B.nums[k] = ((B.l[k].1 : Nat) : Int) := by simp [BdM.nums]
   have := h.wf.lt _ (List.getElem_mem hkL)
   omega
  ·omega
 subst hkl
 have m6 := h2.trans h6
 have hbw6 := m6.get hb (fun h => h)
 repeat (first | refine kN_at ?_ | refine kB_at ?_ | refine kfld_of ?_ | refine kext_at rfl ?_ | refine kld_at hbw6 rfl ?_ | refine kldN_at hbw6 rfl (by omega) ?_ | refine kG_of (by first | exact rfl | omega) ?_ | refine klen_at ?_ | refine eql_at ?_ | refine neq_at ?_ | refine lss_at ?_ | refine leq_at ?_ | refine gtr_at ?_ | refine geq_at ?_ | refine add_at (by omega) (by omega) ?_ | refine sub_at (by omega) (by omega) ?_ | refine not_at ?_ | refine kO_at ?_ | refine kprt_at rfl ?_ | refine kprtN_at rfl ?_ | refine kcap_at ?_ | refine klenStr_at ?_ | refine kN_iat ?_ | refine kN_fat ?_ | refine kIf_T (by first | exact rfl | exact decT (by omega) | exact notT (decF (by omega))) ?_ | refine kIf_F (by first | exact rfl | exact decF (by omega) | exact notF (decT (by omega))) ?_)
 refine kbldS_of (cs := [.int .i64 ((B.nx : Nat) : Int)]) rfl fun w12 h12 hs12 hb12 => ?_
 have m12 := m6.trans h12
 have hO12 := hsO.same m12
 have hlen : (B.nums.map nV).length = B.nums.length := by simp
 refine kcall_of (by have := insert_end hO12 (by rw [hlen]; omega) (x := ((B.nx : Nat) : Int)) hb12; rw [hlen, natV] at this; exact this) ?_
 rintro v w14 ⟨hO14, h14, hf14⟩
 have eN : B.nums.map nV ++ [Value.int .i64 ((B.nx : Nat) : Int)] = (BdM.mk (B.l ++ [(B.nx, e)]) (B.nx + 1)).nums.map nV := by unfold BdM.nums; simp [nV]
 rw [eN] at hO14
 obtain ⟨va, vn, vc, rfl, _, _⟩ := hO14.is
 have hbw14 := h14.get (m12.get hb (fun h => h)) (fun hk => ns _ hk rfl)
 have he14 := h14.get ((h6.trans h12).get he2 (fun h => h)) (fun hk => by have := hsO.vblk_lt hk; omega)
 have ho14 := (ho.same m12).mod h14 (fun hk => (hnv _ hk).1 rfl)
 have hi14 := (hi.same m12).mod h14 (fun hk => (hnv _ hk).2 rfl)
 repeat (first | refine kN_at ?_ | refine kB_at ?_ | refine kfld_of ?_ | refine kext_at rfl ?_ | refine kG_of (by first | exact rfl | omega) ?_ | refine klen_at ?_ | refine eql_at ?_ | refine neq_at ?_ | refine lss_at ?_ | refine leq_at ?_ | refine gtr_at ?_ | refine geq_at ?_ | refine add_at (by omega) (by omega) ?_ | refine sub_at (by omega) (by omega) ?_ | refine not_at ?_ | refine kO_at ?_ | refine kprt_at rfl ?_ | refine kprtN_at rfl ?_ | refine kcap_at ?_ | refine klenStr_at ?_ | refine kN_iat ?_ | refine kN_fat ?_ | refine kIf_T (by first | exact rfl | exact decT (by omega) | exact notT (decF (by omega))) ?_ | refine kIf_F (by first | exact rfl | exact decF (by omega) | exact notF (decT (by omega))) ?_)
 refine kst_of (vs := [.slice va vn vc]) hbw14 rfl rfl rfl (by simp) (by simp) fun w16 h16 hs16 hb16 => ?_
 have hbw16 : blk w16.drew b = some (.cells #[.map (some bo), .map (some bi), .slice va vn vc, nx] 225) := hb16
 have hd16 : Mod (fun k => k = b) w14 w16.drew := h16.drew
 have he16 := hd16.get he14 (by omega)
 have ho16 := ho14.mod hd16 hnb
 have hi16 := hi14.mod hd16 hnb2
 have hz12 := m12.size
 have hO16 := hO14.mod hd16 (fun k hk e => by
  rcases hf14 k hk with h | h
  ·exact ns k h e
  ·omega)
 generalize w16.drew = wa at *
 repeat (first | refine kN_at ?_ | refine kB_at ?_ | refine kfld_of ?_ | refine kext_at rfl ?_ | refine kld_at hbw16 rfl ?_ | refine kldN_at hbw16 rfl (by omega) ?_ | refine kG_of (by first | exact rfl | omega) ?_ | refine klen_at ?_ | refine eql_at ?_ | refine neq_at ?_ | refine lss_at ?_ | refine leq_at ?_ | refine gtr_at ?_ | refine geq_at ?_ | refine add_at (by omega) (by omega) ?_ | refine sub_at (by omega) (by omega) ?_ | refine not_at ?_ | refine kO_at ?_ | refine kprt_at rfl ?_ | refine kprtN_at rfl ?_ | refine kcap_at ?_ | refine klenStr_at ?_ | refine kN_iat ?_ | refine kN_fat ?_ | refine kIf_T (by first | exact rfl | exact decT (by omega) | exact notT (decF (by omega))) ?_ | refine kIf_F (by first | exact rfl | exact decF (by omega) | exact notF (decT (by omega))) ?_)
 refine kldN_at (cs := [.int .i64 e.i, .int .i64 e.g]) he16 rfl (by omega) ?_
 refine kG_of rfl ?_
 refine kldN_at (cs := [.int .i64 e.i, .int .i64 e.g]) he16 rfl (by omega) ?_
 refine kG_of rfl ?_
 have hon : B.own (B.nx : Int) = none := BdM.own_none.2 fun x hx => by have := (h.wf.lt x hx).2; omega
 refine kmapEntryV (F := intF) Tryz.underlying222 keyInt' zEnt0 ho16 ((B.nx : Nat) : Int) fun w24 s24 h24 hs24 hm24 => ?_
 have hz16 := hd16.size
 have hz14 := h14.size
 have he24 := h24.get he16 (by omega)
 rw [hon]
 refine kG_of (kldN_at (cs := [.int .i64 e.i, .int .i64 e.g]) he24 rfl (by omega) ⟨rfl, rfl⟩) ?_
 refine kG_of (kldN_at (cs := [.int .i64 e.i, .int .i64 e.g]) he24 rfl (by omega) ⟨rfl, rfl⟩) ?_
 repeat (first | refine kN_at ?_ | refine kB_at ?_ | refine kfld_of ?_ | refine kext_at rfl ?_ | refine kG_of (by first | exact rfl | omega) ?_ | refine klen_at ?_ | refine eql_at ?_ | refine neq_at ?_ | refine lss_at ?_ | refine leq_at ?_ | refine gtr_at ?_ | refine geq_at ?_ | refine add_at (by omega) (by omega) ?_ | refine sub_at (by omega) (by omega) ?_ | refine not_at ?_ | refine kO_at ?_ | refine kprt_at rfl ?_ | refine kprtN_at rfl ?_ | refine kcap_at ?_ | refine klenStr_at ?_ | refine kN_iat ?_ | refine kN_fat ?_ | refine kIf_T (by first | exact rfl | exact decT (by omega) | exact notT (decF (by omega))) ?_ | refine kIf_F (by first | exact rfl | exact decF (by omega) | exact notF (decT (by omega))) ?_)
 refine kentryStoreV (F := intF) hm24 fun w26 h26 hs26 hm26 => ?_
 have he26 := h26.get he24 (by omega)
 refine kG_of (kldN_at (cs := [.int .i64 e.i, .int .i64 e.g]) he26 rfl (by omega) ⟨rfl, rfl⟩) ?_
 have m26 : Mod (fun k => k = bo) wa w26 := h24.trans h26
 have hi26 := hi16.mod m26 (fun h => ne h.symm)
 refine kmapEntryV (F := EK.v) Tryz.underlying223 keyEK zInt0 hi26 e fun w28 s28 h28 hs28 hm28 => ?_
 rw [he]
 repeat (first | refine kN_at ?_ | refine kB_at ?_ | refine kfld_of ?_ | refine kext_at rfl ?_ | refine kG_of (by first | exact rfl | omega) ?_ | refine klen_at ?_ | refine eql_at ?_ | refine neq_at ?_ | refine lss_at ?_ | refine leq_at ?_ | refine gtr_at ?_ | refine geq_at ?_ | refine add_at (by omega) (by omega) ?_ | refine sub_at (by omega) (by omega) ?_ | refine not_at ?_ | refine kO_at ?_ | refine kprt_at rfl ?_ | refine kprtN_at rfl ?_ | refine kcap_at ?_ | refine klenStr_at ?_ | refine kN_iat ?_ | refine kN_fat ?_ | refine kIf_T (by first | exact rfl | exact decT (by omega) | exact notT (decF (by omega))) ?_ | refine kIf_F (by first | exact rfl | exact decF (by omega) | exact notF (decT (by omega))) ?_)
 refine kentryStoreV (F := EK.v) hm28 fun w30 h30 hs30 hm30 => ?_
 have m30 : Mod (fun k => k = bi) w26 w30 := h28.trans h30
 refine ⟨rfl, _, m30.get (m26.get hbw16 (fun h => hnb h.symm)) (fun h => hnb2 h.symm), ?_, ?_, ?_, fun k hk => ?_, ?_⟩
 ·rw [BdM.own_snoc B B.nx (B.nx + 1) e hon]
  exact hm26.mod m30 ne
 ·rw [BdM.ids_snoc B B.nx (B.nx + 1) e he]
  exact hm30
 ·refine (hO16.mod m26 fun k hk e => ?_).mod m30 fun k hk e => ?_
  ·rcases hf14 k hk with h | h
   ·exact (hnv k h).1 e
   ·omega
  ·rcases hf14 k hk with h | h
   ·exact (hnv k h).2 e
   ·omega
 ·rcases hf14 k hk with h | h
  ·exact .inl h
  ·exact .inr (by omega)
 ·exact (Mod.of_same m12).trans ((h14.mono fun k _ h => .inr (.inr (.inr h))).trans ((hd16.mono fun k _ h => .inl h).trans ((m26.mono fun k _ h => .inr (.inl h)).trans (m30.mono fun k _ h => .inr (.inr (.inl h))))))
theorem bdGive {U : Nat → Prop} {w : World} {b : Nat} {B : BdM} (h : BdAt U w b B) (e : EK) (he : B.ids e = none) (hle : B.l.length < 64) (hnx : B.nx ≤ 1073741824) :
  Meets Tryz.prog 83 #[.pointer (some ⟨b, 0, none⟩), e.v] w fun v w' => v = .tuple #[natV B.nx, .nilIface] ∧ BdAt (fun k => U k ∨ w.heap.size ≤ k) w' b ⟨B.l ++ [(B.nx, e)], B.nx + 1⟩ ∧ Mod U w w' := by
 have hA := h
 obtain ⟨bo, bi, sv, h⟩ := h
 refine f83_ok ?_
 unfold f83
 refine knew_of fun w2 h2 hs2 hb2 => ?_
 have he2 : blk w2 w.heap.size = some (.cells #[.int .i64 e.i, .int .i64 e.g] 37) := hb2
 refine kldN_at (cs := [.int .i64 e.i, .int .i64 e.g]) he2 rfl (by omega) ?_
 refine kcall_of (bdID (hA.same h2) e) ?_
 rintro v w5 ⟨rfl, h5⟩
 rw [he]
 repeat (first | refine kN_at ?_ | refine kB_at ?_ | refine kfld_of ?_ | refine kext_at rfl ?_ | refine kG_of (by first | exact rfl | omega) ?_ | refine klen_at ?_ | refine eql_at ?_ | refine neq_at ?_ | refine lss_at ?_ | refine leq_at ?_ | refine gtr_at ?_ | refine geq_at ?_ | refine add_at (by omega) (by omega) ?_ | refine sub_at (by omega) (by omega) ?_ | refine not_at ?_ | refine kO_at ?_ | refine kprt_at rfl ?_ | refine kprtN_at rfl ?_ | refine kcap_at ?_ | refine klenStr_at ?_ | refine kN_iat ?_ | refine kN_fat ?_ | refine kIf_T (by first | exact rfl | exact decT (by omega) | exact notT (decF (by omega))) ?_ | refine kIf_F (by first | exact rfl | exact decF (by omega) | exact notF (decT (by omega))) ?_)
 rw [keq_ptr_nil ptBad]
 refine kB_at ?_
 refine kIf_F rfl ?_
 refine kB_at ?_
 refine kIf_F rfl ?_
 have m5 := h2.trans h5
 have h5' := h.mod m5 (fun _ _ h => h)
 have he5 := h5.get he2 (fun h => h)
 have hh := h5'.here
 rw [natV] at hh ⊢
 refine kN_at ?_
 refine kfld_of ?_
 refine kld_of (v := .int .i64 ((B.nx : Nat) : Int)) hh rfl ?_
 refine gtr_at ?_
 rw [decF (by omega)]
 refine kB_at ?_
 refine kIf_F rfl ?_
 unfold f83_0
 refine kN_at ?_
 refine kfld_of ?_
 refine kld_of (v := .int .i64 ((B.nx : Nat) : Int)) hh rfl ?_
 refine kN_at ?_
 refine kfld_of ?_
 refine kld_of (v := .int .i64 ((B.nx : Nat) : Int)) hh rfl ?_
 refine add_at (by omega) (by omega) ?_
 refine kN_at ?_
 refine kfld_of ?_
 refine kst_of (vs := [.int .i64 (((B.nx : Nat) : Int) + 1)]) hh rfl rfl rfl (by simp) (by simp) fun w28 h28 hs28 hb28 => ?_
 have hb28 : blk w28 b = some (.cells #[.map (some bo), .map (some bi), sv, .int .i64 (((B.nx : Nat) : Int) + 1)] 225) := hb28
 obtain ⟨hnb, hnb2, hnv⟩ := h.apart
 have lb := lt_of_blk h.here
 have he28 := h28.get he5 (by omega)
 refine kldN_at (cs := [.int .i64 e.i, .int .i64 e.g]) he28 rfl (by omega) ?_
 refine kcall_of (bdOwn h hb28 (h5'.own.mod h28 hnb) (h5'.ids.mod h28 hnb2) (h5'.nums.mod h28 fun k hk => h5'.ns k hk) hle e he) ?_
 rintro v w31 ⟨rfl, sv', g1, g2, g3, g4, g5, g6⟩
 have hz5 := m5.size
 refine ⟨rfl, ⟨bo, bi, sv', ?_, g2, g3, g4, .inl h.ub, .inl h.uo, .inl h.ui, fun k hk => ?_, h.ne, fun k hk => ?_, ?_, by simp; omega⟩, ?_⟩
 ·have : (((B.nx : Nat) : Int) + 1) = ((B.nx + 1 : Nat) : Int) := by omega
  rw [this] at g1
  exact g1
 ·rcases g5 k hk with h1 | h1
  ·exact .inl (h.us k h1)
  ·exact .inr (by omega)
 ·rcases g5 k hk with h1 | h1
  ·exact h.ns k h1
  ·omega
 ·refine ⟨?_, fun x hx => ?_, ?_, Nat.le_succ_of_le h.wf.pos⟩
  ·rw [List.map_append, List.pairwise_append]
   refine ⟨h.wf.asc, by simp, fun x hx y hy => ?_⟩
   obtain ⟨z, hz, rfl⟩ := List.mem_map.1 hx
   have := (h.wf.lt z hz).2
   simp at hy
   omega
  ·rcases List.mem_append.1 hx with h1 | h1
   ·have := h.wf.lt x h1
    exact ⟨this.1, Nat.lt_succ_of_lt this.2⟩
   ·have hx1 : x = (B.nx, e) := by simpa using h1
    subst hx1
    have hnx1 : 1 ≤ B.nx := h.wf.pos
    exact ⟨hnx1, Nat.lt_succ_self _⟩
  ·rw [List.map_append]
   refine List.nodup_append.2 ⟨h.wf.nd, by simp, fun x hx y hy e1 => ?_⟩
   obtain ⟨z, hz, rfl⟩ := List.mem_map.1 hx
   have hy1 : y = e := by simpa using hy
   exact BdM.ids_none.1 he z hz (by rw [e1, hy1])
 ·refine (Mod.of_same m5).trans ((h28.mono fun k _ e => by rw [e]; exact h.ub).trans (g6.mono fun k _ e => ?_))
  rcases e with rfl | rfl | rfl | e
  ·exact h.ub
  ·exact h.uo
  ·exact h.ui
  ·exact h.us k e
end
section
attribute [local irreducible] kO kB kStr kInt kN kG kIf kfld kld kldN kst knew kmap kbld kbldS kext kcnv klenStr klen kcap kprt kprtN kbool kint kstr keq kun ksl kix kiv kta kmk kmm ksem ksemU kextf kcallV kcallM kcall kL
end
section
def goneS (S : SM) (i : Nat) (g : Int) : SM := { S with gens := S.gens.set i (g, false), free := S.free ++ [i] }
theorem WFe.gone {S : SM} {i : Nat} (h : WFe S (· = i)) {g : Int} (hg : S.gens[i]? = some (g, true)) : WF (goneS S i g) ∧ ∀ j, partsOf (goneS S i g) j = partsOf S j := by
 have hil := (List.getElem?_eq_some_iff.1 hg).1
 have hne : ∀ j, j ≠ i → (S.gens.set i (g, false))[j]? = S.gens[j]? := fun j hj => by rw [List.getElem?_set_ne (fun e => hj e.symm)]
 refine ⟨⟨by show (S.gens.set i _).length = _; rw [List.length_set]; exact h.gs, fun j gj hgj _ => ?_, fun n T r e hT hr => ?_, h.cols⟩, fun j => rfl⟩
 ·have hgj : (S.gens.set i (g, false))[j]? = some (gj, true) := hgj
  by_cases hj : j = i
  ·subst hj
   rw [List.getElem?_set, if_pos rfl, if_pos hil] at hgj
   cases hgj
  ·rw [hne j hj] at hgj
   exact h.live j gj hgj hj
 ·obtain ⟨j, e1, e2, e3, e4⟩ := h.rows n T r e hT hr
  exact ⟨j, e1, fun h => h, by show (S.gens.set i (g, false))[j]? = _; rw [hne j e2]; exact e3, e4⟩
theorem FreeOk.gone {S : SM} (h : FreeOk S) {i : Nat} {g : Int} (hg : S.gens[i]? = some (g, true)) : FreeOk (goneS S i g) := by
 have hil := (List.getElem?_eq_some_iff.1 hg).1
 have hni : i ∉ S.free := fun hm => by
  obtain ⟨g', e⟩ := (h.2 i).1 hm
  rw [hg] at e; cases e
 refine ⟨List.nodup_append.2 ⟨h.1, by simp, fun a ha b hb e => by simp at hb; subst hb; subst e; exact hni ha⟩, fun j => ?_⟩
 show j ∈ S.free ++ [i] ↔ ∃ g', (S.gens.set i (g, false))[j]? = some (g', false)
 by_cases hj : j = i
 ·subst hj
  rw [List.getElem?_set, if_pos rfl, if_pos hil]
  exact ⟨fun _ => ⟨g, rfl⟩, fun _ => by simp⟩
 ·rw [List.getElem?_set_ne (fun e => hj e.symm), ← h.2 j]
  simp [hj]
end
section
attribute [local irreducible] kO kB kStr kInt kN kG kIf kfld kld kldN kst knew kmap kbld kbldS kext kcnv klenStr klen kcap kprt kprtN kbool kint kstr keq kun ksl kix kiv kta kmk kmm ksem ksemU kextf kcallV kcallM kcall kL
def TurnedX (X : Nat → Prop) (o : Lab) (w : World) (b : Nat) (S' : SM) (w' : World) : Prop := ∃ o' p', LabEq w o o' ∧ StoreP o' w' b p' S' ∧ Mod (FP o fun _ => True) w w' ∧ (∀ k, w'.heap.size ≤ k → o' k = none) ∧ ∀ k, X k → o' k = none
theorem TurnedX.t {X : Nat → Prop} {o : Lab} {w w' : World} {b : Nat} {S' : SM} (h : TurnedX X o w b S' w') : Turned o w b S' w' := by
 obtain ⟨o', p', h1, h2, h3, h4, _⟩ := h
 exact ⟨o', p', h1, h2, h3, h4⟩
theorem TurnedX.wrap {X : Nat → Prop} {o : Lab} {w w4 w5 w6 : World} {b : Nat} {S' : SM} (m : Same w w4) (t : TurnedX X (cutL o w.heap.size) w4 b S' w5) (hz : Mod (fun k => w.heap.size ≤ k ∧ k < w4.heap.size) w5 w6) : TurnedX X o w b S' w6 := by
 obtain ⟨o', p', hl, hP, hm, hc, hx⟩ := t
 have ml := m.size
 have hl' : LabEq w o (cutL o' w6.heap.size) := fun k hk => by
  have := hm.size
  have := hz.size
  have e := hl k (by omega)
  unfold cutL at *
  rw [if_pos (by omega), e, if_pos hk]
 refine ⟨cutL o' w6.heap.size, p', hl', hP.frame hz (fun k t e ⟨e1, e2⟩ => ?_) (fun k hk => ?_), ((Mod.of_same m).trans (hm.mono fun k _ hk => hk.cut.1)).trans' (hz.mono fun k _ hk => .inr hk.1), fun k hk => cutL_none hk, fun k hk => ?_⟩
 ·rw [hl k e2] at e
  rw [cutL_none e1] at e; cases e
 ·have := hz.size
  unfold cutL
  rw [if_pos (by omega)]
 ·unfold cutL
  split
  ·exact hx k hk
  ·rfl
theorem TurnedX.seq {X : Nat → Prop} {o o1 : Lab} {w w1 w2 w3 : World} {b : Nat} {S' : SM} (hl : LabEq w o o1) (hm : Mod (FP o fun _ => True) w w1) (m : Same w1 w2) (t : TurnedX X o1 w2 b S' w3) : TurnedX X o w b S' w3 := by
 obtain ⟨o', p', hl', hP, hm', hc, hx⟩ := t
 have hm2 := hm.trans (Mod.of_same m)
 exact ⟨o', p', hl.trans hl' hm2.size, hP, Mod.labs hm2 hl hm', hc, hx⟩
theorem despawn_at {o : Lab} {w : World} {b : Nat} {p : Ptrs} {S : SM} (h : StoreP o w b p S) {t : Nat} (hG : GS S t) {i : Nat} {g : Int} (hg : S.gens[i]? = some (g, true)) (hfl : S.free.length < S.gens.length) :
  Meets Tryz.prog 12 #[ptrV b, entV i g] w fun v w' => ∃ sv, v = .tuple #[sv, .nilIface] ∧ Own w' sv 6 ((partsOf S i).flatMap Part.cells) ∧ (∀ k, vblk sv k → w.heap.size ≤ k) ∧ ∃ S', GS S' t ∧ S'.gens = S.gens.set i (g, false) ∧ S'.free = S.free ++ [i] ∧ S'.cs = S.cs ∧ S'.masks = S.masks ∧ S'.tabs.length = S.tabs.length ∧
   (∀ j gj, j ≠ i → S.gens[j]? = some (gj, true) → partsOf S' j = partsOf S j) ∧ TurnedX (vblk sv) o w b S' w' := by
 obtain ⟨n, r, hs, hn, hr, hri, m, gm, hl, hm, hsm⟩ := hG.wf.stand hg (fun h => h)
 obtain ⟨w4, v4⟩ := WFe.leave hG.wf hs hn hr hri hl hm hsm
 obtain ⟨w5, v5⟩ := w4.gone (show (leaveS S n r m hn).gens[i]? = _ from hg)
 have hrl := hG.wf.rows_le (List.getElem?_eq_getElem hn)
 have hgs := hG.wf.gs
 have h64 := hG.g64
 have hpe := partsOf_eq hs (List.getElem?_eq_getElem hn)
 rw [ptrV]
 refine f12_ok ?_
 unfold f12
 refine knew_of fun w2 hm2 hs2 hb2 => ?_
 have hb2 : blk w2 w.heap.size = some (.cells #[.int .i64 i, .int .i64 g] 37) := hb2
 repeat (first | refine kN_at ?_ | refine kB_at ?_ | refine kfld_of ?_ | refine kext_at rfl ?_ | refine kld_at hb2 rfl ?_ | refine kldN_at hb2 rfl (by omega) ?_ | refine kG_of (by first | exact rfl | omega) ?_ | refine klen_at ?_ | refine eql_at ?_ | refine neq_at ?_ | refine lss_at ?_ | refine leq_at ?_ | refine gtr_at ?_ | refine geq_at ?_ | refine add_at (by omega) (by omega) ?_ | refine sub_at (by omega) (by omega) ?_ | refine not_at ?_ | refine kO_at ?_ | refine kprt_at rfl ?_ | refine kprtN_at rfl ?_ | refine kcap_at ?_ | refine klenStr_at ?_ | refine kN_iat ?_ | refine kN_fat ?_ | refine kIf_T (by first | exact rfl | exact decT (by omega) | exact notT (decF (by omega))) ?_ | refine kIf_F (by first | exact rfl | exact decF (by omega) | exact notF (decT (by omega))) ?_)
 refine kcall_of (sSpot_spec (h.same hm2) hg hs) ?_
 rintro v wc ⟨rfl, hc⟩
 repeat (first | refine kN_at ?_ | refine kB_at ?_ | refine kfld_of ?_ | refine kext_at rfl ?_ | refine kG_of (by first | exact rfl | omega) ?_ | refine klen_at ?_ | refine eql_at ?_ | refine neq_at ?_ | refine lss_at ?_ | refine leq_at ?_ | refine gtr_at ?_ | refine geq_at ?_ | refine add_at (by omega) (by omega) ?_ | refine sub_at (by omega) (by omega) ?_ | refine not_at ?_ | refine kO_at ?_ | refine kprt_at rfl ?_ | refine kprtN_at rfl ?_ | refine kcap_at ?_ | refine klenStr_at ?_ | refine kN_iat ?_ | refine kN_fat ?_ | refine kIf_T (by first | exact rfl | exact decT (by omega) | exact notT (decF (by omega))) ?_ | refine kIf_F (by first | exact rfl | exact decF (by omega) | exact notF (decT (by omega))) ?_)
 refine knew_of fun w9 h9 hs9 hb9 => ?_
 refine kst_of (vs := [natV n, natV r]) hb9 rfl rfl rfl (by simp) (by simp) fun w10 h10 hs10 hb10 => ?_
 have hszc := hc.size
 have m10 : Same w w10 := ((hm2.trans hc).trans h9).trans' (h10.mono fun k _ e => .inr (by omega))
 have he10 := (hc.trans (h9.trans' (h10.mono fun k _ e => .inr (by omega)) : Same wc w10)).get hb2 (fun h => h)
 rw [keq_nil_nil' ifErr]
 refine kB_at ?_
 refine kIf_F rfl ?_
 unfold f12_0
 repeat (first | refine kN_at ?_ | refine kB_at ?_ | refine kfld_of ?_ | refine kext_at rfl ?_ | refine kld_at he10 rfl ?_ | refine kldN_at he10 rfl (by omega) ?_ | refine kG_of (by first | exact rfl | omega) ?_ | refine klen_at ?_ | refine eql_at ?_ | refine neq_at ?_ | refine lss_at ?_ | refine leq_at ?_ | refine gtr_at ?_ | refine geq_at ?_ | refine add_at (by omega) (by omega) ?_ | refine sub_at (by omega) (by omega) ?_ | refine not_at ?_ | refine kO_at ?_ | refine kprt_at rfl ?_ | refine kprtN_at rfl ?_ | refine kcap_at ?_ | refine klenStr_at ?_ | refine kN_iat ?_ | refine kN_fat ?_ | refine kIf_T (by first | exact rfl | exact decT (by omega) | exact notT (decF (by omega))) ?_ | refine kIf_F (by first | exact rfl | exact decF (by omega) | exact notF (decT (by omega))) ?_)
 have hP10 := h.cut m10
 refine kcall_of (sLeave_spec hP10 (g := g) (gm := gm) hs hn hr (fun c hc => hG.wf.cols n _ c (List.getElem?_eq_getElem hn) hc) hl hm (by omega)) ?_
 rintro v w15 ⟨sv, rfl, hO, hf, hP15, hm15⟩
 have hsz2 := hm2.size
 have hsz10 := m10.size
 have hsz15 := hm15.size
 have he15 := hm15.get he10 (fun ⟨t, e1, _⟩ => by rw [cutL_none (Nat.le_refl _)] at e1; cases e1)
 repeat (first | refine kN_at ?_ | refine kB_at ?_ | refine kfld_of ?_ | refine kext_at rfl ?_ | refine kG_of (by first | exact rfl | omega) ?_ | refine klen_at ?_ | refine eql_at ?_ | refine neq_at ?_ | refine lss_at ?_ | refine leq_at ?_ | refine gtr_at ?_ | refine geq_at ?_ | refine add_at (by omega) (by omega) ?_ | refine sub_at (by omega) (by omega) ?_ | refine not_at ?_ | refine kO_at ?_ | refine kprt_at rfl ?_ | refine kprtN_at rfl ?_ | refine kcap_at ?_ | refine klenStr_at ?_ | refine kN_iat ?_ | refine kN_fat ?_ | refine kIf_T (by first | exact rfl | exact decT (by omega) | exact notT (decF (by omega))) ?_ | refine kIf_F (by first | exact rfl | exact decF (by omega) | exact notF (decT (by omega))) ?_)
 rw [keq_nil_nil' ifErr]
 refine kB_at ?_
 refine kIf_F rfl ?_
 unfold f12_1
 have md : Same w15 w15.drew := (Mod.refl (fun _ => False) _).drew
 have hPd := hP15.same md
 have hed := md.get he15 (fun h => h)
 have hOd := hO.same md
 have hsd : w15.drew.heap.size = w15.heap.size := rfl
 generalize w15.drew = wd at *
 have hbd := hPd.here
 repeat (first | refine kN_at ?_ | refine kB_at ?_ | refine kfld_of ?_ | refine kext_at rfl ?_ | refine kld_at hbd rfl ?_ | refine kld_at hed rfl ?_ | refine kldN_at hbd rfl (by omega) ?_ | refine kldN_at hed rfl (by omega) ?_ | refine kG_of (by first | exact rfl | omega) ?_ | refine klen_at ?_ | refine eql_at ?_ | refine neq_at ?_ | refine lss_at ?_ | refine leq_at ?_ | refine gtr_at ?_ | refine geq_at ?_ | refine add_at (by omega) (by omega) ?_ | refine sub_at (by omega) (by omega) ?_ | refine not_at ?_ | refine kO_at ?_ | refine kprt_at rfl ?_ | refine kprtN_at rfl ?_ | refine kcap_at ?_ | refine klenStr_at ?_ | refine kN_iat ?_ | refine kN_fat ?_ | refine kIf_T (by first | exact rfl | exact decT (by omega) | exact notT (decF (by omega))) ?_ | refine kIf_F (by first | exact rfl | exact decF (by omega) | exact notF (decT (by omega))) ?_)
 refine kcall_of (rFree_spec hPd.roll (show (leaveS S n r m hn).gens[i]? = _ from hg) hfl) ?_
 rintro v w24 ⟨rfl, o5, hl5, hR5, hm5⟩
 have hP24 := hPd.setRoll hl5 hm5 hR5
 have hsv : ∀ k, vblk sv k → cutL (cutL o w.heap.size) w10.heap.size k = none := fun k hk => cutL_none (hf k hk)
 refine ⟨sv, rfl, ?_, fun k hk => by have := hf k hk; omega, goneS (leaveS S n r m hn) i g, ⟨w5, hG.fr.gone hg, fun j x hx => ?_, hG.ml, ?_⟩, rfl, rfl, rfl, rfl, ?_, fun j gj hj hgj => ?_, ?_⟩
 ·rw [hpe]
  exact hOd.mod hm5 fun k hk ⟨t, e1, _⟩ => by rw [hsv k hk] at e1; cases e1
 ·have hx : (S.gens.set i (g, false))[j]? = some x := hx
  have hil := (List.getElem?_eq_some_iff.1 hg).1
  by_cases hj : j = i
  ·subst hj
   rw [List.getElem?_set, if_pos rfl, if_pos hil] at hx
   cases hx
   have := hG.gen j _ hg
   simpa using this
  ·rw [List.getElem?_set_ne (fun e => hj e.symm)] at hx
   exact hG.gen j x hx
 ·show (S.gens.set i _).length ≤ 64
  rw [List.length_set]; exact h64
 ·show (List.set _ _ _).length = _
  rw [List.length_set]
 ·exact (v5 j).trans (v4 j gj hj hgj)
 ·refine TurnedX.wrap m10 ?_ (Mod.refl _ _)
  refine TurnedX.seq (o1 := cutL (cutL o w.heap.size) w10.heap.size) (w1 := w15) (LabEq.cut w10 _) hm15 md ?_
  refine ⟨cutL o5 w24.heap.size, p, hl5.trans (LabEq.cut w24 o5) hm5.size, hP24.frame (Mod.refl (fun _ => False) _) (fun _ _ _ h => h) (LabEq.cut w24 o5), hm5.mono fun k _ hk => FP.mono (fun _ _ => trivial) hk, fun k hk => cutL_none hk, fun k hk => ?_⟩
  have hkl := hOd.vblk_lt hk
  unfold cutL
  split
  ·rw [hl5 k hkl]; exact hsv k hk
  ·rfl
end
section
attribute [local irreducible] kO kB kStr kInt kN kG kIf kfld kld kldN kst knew kmap kbld kbldS kext kcnv klenStr klen kcap kprt kprtN kbool kint kstr keq kun ksl kix kiv kta kmk kmm ksem ksemU kextf kcallV kcallM kcall kL
end
section
def SortP (L : List Part) : Prop := L.Pairwise (fun x y => x.comp ≤ y.comp)
theorem nt_inj : ∀ {A : List Part}, NoTwice A → ∀ x ∈ A, ∀ y ∈ A, x.comp = y.comp → x = y
 | [], _, x, hx, _, _, _ => by cases hx
 | a :: A, h, x, hx, y, hy, e => by
  have h' := List.nodup_cons.1 (show (a.comp :: A.map (·.comp)).Nodup from h)
  rcases List.mem_cons.1 hx with hxa | hxA
  ·rcases List.mem_cons.1 hy with hya | hyA
   ·rw [hxa, hya]
   ·exact absurd (show a.comp ∈ A.map (·.comp) from List.mem_map.2 ⟨y, hyA, by rw [← hxa]; exact e.symm⟩) h'.1
  ·rcases List.mem_cons.1 hy with hya | hyA
   ·exact absurd (show a.comp ∈ A.map (·.comp) from List.mem_map.2 ⟨x, hxA, by rw [← hya]; exact e⟩) h'.1
   ·exact nt_inj h'.2 x hxA y hyA e
theorem sorted_unique {A B : List Part} (hp : A.Perm B) (hA : SortP A) (hB : SortP B) (hn : NoTwice A) : A = B :=
 List.Perm.eq_of_pairwise (le := fun x y : Part => x.comp ≤ y.comp) (fun a b ha hb h1 h2 => nt_inj hn a ha b (hp.mem_iff.2 hb) (by omega)) hA hB hp
theorem NoTwice.filter {L : List Part} (h : NoTwice L) (p : Part → Bool) : NoTwice (L.filter p) :=
 List.Nodup.sublist (List.Sublist.map _ List.filter_sublist) h
end
section
attribute [local irreducible] kO kB kStr kInt kN kG kIf kfld kld kldN kst knew kmap kbld kbldS kext kcnv klenStr klen kcap kprt kprtN kbool kint kstr keq kun ksl kix kiv kta kmk kmm ksem ksemU kextf kcallV kcallM kcall kL
end
section
attribute [local irreducible] kO kB kStr kInt kN kG kIf kfld kld kldN kst knew kmap kbld kbldS kext kcnv klenStr klen kcap kprt kprtN kbool kint kstr keq kun ksl kix kiv kta kmk kmm ksem ksemU kextf kcallV kcallM kcall kL
theorem Cur.turnN {w0 : World} {o : Lab} {w w' : World} {b : Nat} {p : Ptrs} {S S' : SM} {t t' : Nat} (h : Cur w0 o w b p S t) (T : Turned o w b S' w') (hG : GS S' t') : ∃ o' p', Cur w0 o' w' b p' S' t' ∧ (∀ k, k < w.heap.size → o k = none → o' k = none) ∧ Mod (fun k => o k ≠ none) w w' := by
 obtain ⟨o', p', C, hl, hm⟩ := h.turn T hG
 exact ⟨o', p', C, fun k hk e => by rw [hl k hk]; exact e, hm⟩
theorem Cur.mod {w0 : World} {o : Lab} {w w2 : World} {b : Nat} {p : Ptrs} {S : SM} {t : Nat} (h : Cur w0 o w b p S t) {fp : Nat → Prop} (m : Mod fp w w2) (hf : ∀ k, fp k → o k = none) (hlo : ∀ k, fp k → w0.heap.size ≤ k) : Cur w0 o w2 b p S t :=
 ⟨h.sp.frame m (fun k t e hk => by rw [hf k hk] at e; cases e) (LabEq.refl _ _), h.gs, h.lo, fun k hk => h.hi k (Nat.le_trans m.size hk), h.same.trans' (m.mono fun k _ e => .inr (hlo k e))⟩
end
section
theorem GS.succ {S : SM} {t : Nat} (h : GS S t) : GS S (t + 1) := ⟨h.wf, h.fr, fun i x e => by have := h.gen i x e; omega, by have := h.ml; omega, h.g64⟩
structure Kept (S S' : SM) (n : Nat) : Prop where
 cs : S'.cs = S.cs
 len : S'.gens.length = S.gens.length
 others : ∀ j, j ≠ n → S'.gens[j]? = S.gens[j]?
 own : ∀ g al, S.gens[n]? = some (g, al) → ∃ al', S'.gens[n]? = some (g, al')
 parts : ∀ j gj, j ≠ n → S.gens[j]? = some (gj, true) → partsOf S' j = partsOf S j
theorem Kept.refl (S : SM) (n : Nat) : Kept S S n := ⟨rfl, rfl, fun _ _ => rfl, fun _ al h => ⟨al, h⟩, fun _ _ _ _ => rfl⟩
theorem Went.kept {S S' : SM} {L : List Part} {i : Nat} (h : Went S S' L i) : Kept S S' i := ⟨h.cs, by rw [h.gens], fun _ _ => by rw [h.gens], fun _ al e => ⟨al, by rw [h.gens]; exact e⟩, h.others⟩
theorem PutS.kept {S S' : SM} {i c : Nat} {q : Part} (h : PutS S S' i c q) : Kept S S' i := ⟨h.cs, by rw [h.gens], fun _ _ => by rw [h.gens], fun _ al e => ⟨al, by rw [h.gens]; exact e⟩, h.others⟩
def Done (o : Lab) (w : World) (b : Nat) (S : SM) (t n : Nat) (w' : World) : Prop := ∃ S', GS S' (t + 1) ∧ Kept S S' n ∧ (Same w w' ∧ S' = S ∨ Turned o w b S' w')
theorem Done.same {o : Lab} {w w' : World} {b : Nat} {S : SM} {t n : Nat} (hG : GS S t) (m : Same w w') : Done o w b S t n w' := ⟨S, hG.succ, Kept.refl S n, .inl ⟨m, rfl⟩⟩
theorem Cur.done {w0 : World} {o : Lab} {w w' : World} {b : Nat} {p : Ptrs} {S : SM} {t n : Nat} (h : Cur w0 o w b p S t) (d : Done o w b S t n w') : ∃ o' p' S', Cur w0 o' w' b p' S' (t + 1) ∧ Kept S S' n ∧ (∀ k, k < w.heap.size → o k = none → o' k = none) ∧ Mod (fun k => o k ≠ none) w w' := by
 obtain ⟨S', hG, hK, ⟨m, rfl⟩ | T⟩ := d
 ·have C := h.loc m
  exact ⟨o, p, S', ⟨C.sp, hG, C.lo, C.hi, C.same⟩, hK, fun _ _ e => e, Mod.of_same m⟩
 ·obtain ⟨o', p', C, hk, hm⟩ := h.turnN T hG
  exact ⟨o', p', S', C, hK, hk, hm⟩
theorem FreeOk.lt {S : SM} (h : FreeOk S) {i : Nat} {g : Int} (hg : S.gens[i]? = some (g, true)) : S.free.length < S.gens.length := by
 have hil := (List.getElem?_eq_some_iff.1 hg).1
 have hni : i ∉ S.free := fun hm => by
  obtain ⟨g', e⟩ := (h.2 i).1 hm
  rw [hg] at e; cases e
 have hnd : (i :: S.free).Nodup := List.nodup_cons.2 ⟨hni, h.1⟩
 have := List.Nodup.length_le_of_subset hnd (l₂ := List.range S.gens.length) (fun a ha => by
  rcases List.mem_cons.1 ha with rfl | ha
  ·simpa using hil
  ·obtain ⟨g', e⟩ := (h.2 a).1 ha
   simpa using (List.getElem?_eq_some_iff.1 e).1)
 simp at this
 omega
theorem none_at {o : Lab} {w : World} {b : Nat} {p : Ptrs} {S : SM} (h : StoreP o w b p S) {t : Nat} (hG : GS S t) {i : Nat} {g : Int} (hg : S.gens[i]? = some (g, true)) {c : Int} (hno : ∀ x ∈ partsOf S i, x.comp ≠ c) :
  ∃ n r, S.spots[i]? = some (n, r) ∧ ∃ hn : n < S.tabs.length, ∀ x ∈ compsM S.masks n, (x : Int) ≠ c := by
 obtain ⟨n, r, hsp, hn, hnm, _, hpe, hce, hmap, _⟩ := parts_ok h hG hg
 refine ⟨n, r, hsp, hn, fun x hx e => ?_⟩
 rw [hce] at hx
 have h1 : (x : Int) ∈ (partsOf S i).map (·.comp) := hmap ▸ List.mem_map.2 ⟨x, hx, rfl⟩
 obtain ⟨y, hy, e2⟩ := List.mem_map.1 h1
 exact hno y hy (e2.trans e)
end
section
theorem Cur.modQ {w0 : World} {o : Lab} {w w2 : World} {b : Nat} {p : Ptrs} {S : SM} {t : Nat} (h : Cur w0 o w b p S t) {fp : Nat → Prop} (m : Mod fp w w2) (hf : ∀ k, fp k → w0.heap.size ≤ k ∧ o k = none) : Cur w0 o w2 b p S t :=
 ⟨h.sp.frame m (fun k t e hk => by rw [(hf k hk).2] at e; cases e) (LabEq.refl _ _), h.gs, h.lo, fun k hk => h.hi k (Nat.le_trans m.size hk), h.same.trans' (m.mono fun k _ e => .inr (hf k e).1)⟩
def WAt (w0 : World) (fx : Nat → Prop) (bs bb : Nat) (w : World) (S : SM) (t : Nat) (B : BdM) : Prop :=
 ∃ o p U, Cur w0 o w bs p S t ∧ BdAt U w bb B ∧ (∀ k, U k → w0.heap.size ≤ k ∧ o k = none ∧ ¬ fx k) ∧ ∀ k, fx k → w0.heap.size ≤ k ∧ k < w.heap.size ∧ o k = none
theorem WAt.same0 {w0 : World} {fx : Nat → Prop} {bs bb : Nat} {w : World} {S : SM} {t : Nat} {B : BdM} (h : WAt w0 fx bs bb w S t B) : Same w0 w := by
 obtain ⟨o, p, U, C, _⟩ := h
 exact C.same
theorem WAt.lt {w0 : World} {fx : Nat → Prop} {bs bb : Nat} {w : World} {S : SM} {t : Nat} {B : BdM} (h : WAt w0 fx bs bb w S t B) {k : Nat} (hk : fx k) : w0.heap.size ≤ k ∧ k < w.heap.size := by
 obtain ⟨o, p, U, _, _, _, hf⟩ := h
 exact ⟨(hf k hk).1, (hf k hk).2.1⟩
theorem WAt.loc {w0 : World} {fx : Nat → Prop} {bs bb : Nat} {w w' : World} {S : SM} {t : Nat} {B : BdM} (h : WAt w0 fx bs bb w S t B) (m : Same w w') : WAt w0 fx bs bb w' S t B := by
 obtain ⟨o, p, U, C, hb, hU, hf⟩ := h
 exact ⟨o, p, U, C.loc m, hb.same m, hU, fun k hk => ⟨(hf k hk).1, Nat.lt_of_lt_of_le (hf k hk).2.1 m.size, (hf k hk).2.2⟩⟩
theorem WAt.less {w0 : World} {fx fx' : Nat → Prop} {bs bb : Nat} {w : World} {S : SM} {t : Nat} {B : BdM} (h : WAt w0 fx bs bb w S t B) (hs : ∀ k, fx' k → fx k) : WAt w0 fx' bs bb w S t B := by
 obtain ⟨o, p, U, C, hb, hU, hf⟩ := h
 exact ⟨o, p, U, C, hb, fun k hk => ⟨(hU k hk).1, (hU k hk).2.1, fun h => (hU k hk).2.2 (hs k h)⟩, fun k hk => hf k (hs k hk)⟩
theorem WAt.other {w0 : World} {fx fp : Nat → Prop} {bs bb : Nat} {w w' : World} {S : SM} {t : Nat} {B : BdM} (h : WAt w0 fx bs bb w S t B) (m : Mod fp w w') (hfp : ∀ k, fp k → fx k) : WAt w0 (fun k => fx k ∨ (w.heap.size ≤ k ∧ k < w'.heap.size)) bs bb w' S t B := by
 obtain ⟨o, p, U, C, hb, hU, hf⟩ := h
 have hz := m.size
 have hz0 := C.same.size
 refine ⟨o, p, fun k => U k ∧ k < w.heap.size, C.modQ m fun k hk => ⟨(hf k (hfp k hk)).1, (hf k (hfp k hk)).2.2⟩, (hb.mono (U' := fun k => U k ∧ k < w.heap.size) fun k hk hu => ⟨hu, hk⟩).mod m fun k hk hp => (hU k hk.1).2.2 (hfp k hp), fun k hk => ⟨(hU k hk.1).1, (hU k hk.1).2.1, fun h => ?_⟩, fun k hk => ?_⟩
 ·rcases h with h | h
  ·exact (hU k hk.1).2.2 h
  ·have := hk.2; omega
 ·rcases hk with h | h
  ·exact ⟨(hf k h).1, by have := (hf k h).2.1; omega, (hf k h).2.2⟩
  ·exact ⟨by omega, h.2, C.hi k h.1⟩
theorem WAt.turned {w0 : World} {fx : Nat → Prop} {bs bb : Nat} {w w' : World} {S S' : SM} {t t' : Nat} {B : BdM} {o : Lab} {p : Ptrs} {U : Nat → Prop} (C : Cur w0 o w bs p S t) (hb : BdAt U w bb B) (hU : ∀ k, U k → w0.heap.size ≤ k ∧ o k = none ∧ ¬ fx k) (hf : ∀ k, fx k → w0.heap.size ≤ k ∧ k < w.heap.size ∧ o k = none)
  (T : Turned o w bs S' w') (hG : GS S' t') : WAt w0 fx bs bb w' S' t' B ∧ Mod (fun k => w0.heap.size ≤ k ∧ ¬ fx k) w w' := by
 obtain ⟨o', p', C', hk, hm⟩ := C.turnN T hG
 have hz := hm.size
 refine ⟨⟨o', p', fun k => U k ∧ k < w.heap.size, C', (hb.mono (U' := fun k => U k ∧ k < w.heap.size) fun k hk hu => ⟨hu, hk⟩).mod hm fun k hk' hne => hne (hU k hk'.1).2.1, fun k hk' => ⟨(hU k hk'.1).1, hk k hk'.2 (hU k hk'.1).2.1, (hU k hk'.1).2.2⟩, fun k hk' => ⟨(hf k hk').1, by have := (hf k hk').2.1; omega, hk k (hf k hk').2.1 (hf k hk').2.2⟩⟩, hm.mono fun k _ hne => ⟨?_, fun h => hne (hf k h).2.2⟩⟩
 rcases Nat.lt_or_ge k w0.heap.size with h | h
 ·exact absurd (C.lo k h) hne
 ·exact h
theorem WAt.badged {w0 : World} {fx : Nat → Prop} {bs bb : Nat} {w w' : World} {S : SM} {t : Nat} {B' : BdM} {o : Lab} {p : Ptrs} {U : Nat → Prop} (C : Cur w0 o w bs p S t) (hU : ∀ k, U k → w0.heap.size ≤ k ∧ o k = none ∧ ¬ fx k) (hf : ∀ k, fx k → w0.heap.size ≤ k ∧ k < w.heap.size ∧ o k = none)
  (hb : BdAt (fun k => U k ∨ w.heap.size ≤ k) w' bb B') (hm : Mod U w w') : WAt w0 fx bs bb w' S t B' ∧ Mod (fun k => w0.heap.size ≤ k ∧ ¬ fx k) w w' := by
 have hz := hm.size
 have hz0 := C.same.size
 refine ⟨⟨o, p, fun k => U k ∨ w.heap.size ≤ k, C.modQ hm fun k hk => ⟨(hU k hk).1, (hU k hk).2.1⟩, hb, fun k hk => ?_, fun k hk => ⟨(hf k hk).1, by have := (hf k hk).2.1; omega, (hf k hk).2.2⟩⟩, hm.mono fun k _ hu => ⟨(hU k hu).1, (hU k hu).2.2⟩⟩
 rcases hk with h | h
 ·exact hU k h
 ·exact ⟨by omega, C.hi k h, fun hx => by have := (hf k hx).2.1; omega⟩
theorem GS.more {S : SM} {t t' : Nat} (h : GS S t) (ht : t ≤ t') : GS S t' := by
 induction ht with
 | refl => exact h
 | step _ ih => exact ih.succ
structure Link (S : SM) (B : BdM) : Prop where
 live : ∀ x ∈ B.l, ∃ i : Nat, x.2.i = (i : Int) ∧ S.gens[i]? = some (x.2.g, true)
 all : ∀ (i : Nat) (g : Int), S.gens[i]? = some (g, true) → ∃ n, ∃ e : EK, (n, e) ∈ B.l ∧ e.i = (i : Int) ∧ e.g = g
 tm : S.tabs.length = S.masks.length
 cnt : S.free.length + B.l.length = S.gens.length
theorem Link.find {S : SM} {B : BdM} (h : Link S B) (x : Int) : (∃ y, B.l.find? (fun y => decide (((y.1 : Nat) : Int) = x)) = some y ∧ y ∈ B.l ∧ ((y.1 : Nat) : Int) = x) ∨ B.l.find? (fun y => decide (((y.1 : Nat) : Int) = x)) = none := by
 cases hf : B.l.find? (fun y => decide (((y.1 : Nat) : Int) = x)) with
 | none => exact .inr rfl
 | some y =>
  refine .inl ⟨y, rfl, List.mem_of_find?_eq_some hf, ?_⟩
  have := List.find?_some hf
  simpa using this
end
section
def viewS (S : SM) (B : BdM) : List (Nat × List Part) := B.l.map fun x => (x.1, partsOf S x.2.i.toNat)
def findV (V : List (Nat × List Part)) (x : Int) : Option (Nat × List Part) := V.find? fun y => decide (((y.1 : Nat) : Int) = x)
def setV (V : List (Nat × List Part)) (n : Nat) (L : List Part) : List (Nat × List Part) := V.map fun y => if y.1 = n then (n, L) else y
def delV (V : List (Nat × List Part)) (n : Nat) : List (Nat × List Part) := V.filter fun y => decide (y.1 ≠ n)
def delB (B : BdM) (n : Nat) : BdM := ⟨B.l.filter fun y => decide (y.1 ≠ n), B.nx⟩
theorem findV_view (S : SM) (B : BdM) (x : Int) : findV (viewS S B) x = (B.l.find? fun y => decide (((y.1 : Nat) : Int) = x)).map fun y => (y.1, partsOf S y.2.i.toNat) := by
 unfold findV viewS
 rw [List.find?_map]
 rfl
theorem nd_key {B : BdM} (h : B.WF) {a b : Nat × EK} (ha : a ∈ B.l) (hb : b ∈ B.l) (e : a.2 = b.2) : a = b := by
 obtain ⟨i, hi, rfl⟩ := List.mem_iff_getElem.1 ha
 obtain ⟨j, hj, rfl⟩ := List.mem_iff_getElem.1 hb
 have h1 : (B.l.map (·.2))[i]? = some (B.l[i]).2 := by rw [List.getElem?_map, List.getElem?_eq_getElem hi]; rfl
 have h2 : (B.l.map (·.2))[j]? = some (B.l[j]).2 := by rw [List.getElem?_map, List.getElem?_eq_getElem hj]; rfl
 have hij : i = j := (List.getElem?_inj (by simpa using hi) h.nd).1 (by rw [h1, e]; exact h2.symm)
 subst hij; rfl
theorem nd_num {B : BdM} (h : B.WF) {a b : Nat × EK} (ha : a ∈ B.l) (hb : b ∈ B.l) (e : a.1 = b.1) : a = b := by
 obtain ⟨i, hi, rfl⟩ := List.mem_iff_getElem.1 ha
 obtain ⟨j, hj, rfl⟩ := List.mem_iff_getElem.1 hb
 have hnd : (B.l.map (·.1)).Nodup := h.asc.imp fun h e => by omega
 have h1 : (B.l.map (·.1))[i]? = some (B.l[i]).1 := by rw [List.getElem?_map, List.getElem?_eq_getElem hi]; rfl
 have h2 : (B.l.map (·.1))[j]? = some (B.l[j]).1 := by rw [List.getElem?_map, List.getElem?_eq_getElem hj]; rfl
 have hij : i = j := (List.getElem?_inj (by simpa using hi) hnd).1 (by rw [h1, e]; exact h2.symm)
 subst hij; rfl
theorem Link.index {S : SM} {B : BdM} (h : Link S B) {a b : Nat × EK} (ha : a ∈ B.l) (hb : b ∈ B.l) (e : a.2.i = b.2.i) : a.2 = b.2 := by
 obtain ⟨i, h1, h2⟩ := h.live a ha
 obtain ⟨j, h3, h4⟩ := h.live b hb
 have hij : i = j := by omega
 subst hij
 rw [h2] at h4
 have : a.2.g = b.2.g := by simpa using h4
 exact EK.ext e this
theorem Link.went {S S' : SM} {B : BdM} (h : Link S B) {L' : List Part} {i : Nat} (hW : Went S S' L' i) : Link S' B where
 live x hx := by rw [hW.gens]; exact h.live x hx
 all j g hj := by rw [hW.gens] at hj; exact h.all j g hj
 tm := hW.tabs
 cnt := by rw [hW.free, hW.gens]; exact h.cnt
theorem view_went {S S' : SM} {B : BdM} (h : Link S B) (hwf : B.WF) {L' : List Part} {i : Nat} (hW : Went S S' L' i) {y : Nat × EK} (hy : y ∈ B.l) (hyi : y.2.i = (i : Int)) : viewS S' B = setV (viewS S B) y.1 L' := by
 unfold viewS setV
 rw [List.map_map]
 apply List.map_congr_left
 intro x hx
 show (x.1, partsOf S' x.2.i.toNat) = if x.1 = y.1 then (y.1, L') else (x.1, partsOf S x.2.i.toNat)
 by_cases he : x.1 = y.1
 ·have := nd_num hwf hx hy he
  subst this
  rw [if_pos rfl, hyi, Int.toNat_natCast, hW.parts]
 ·rw [if_neg he]
  obtain ⟨j, h1, h2⟩ := h.live x hx
  rw [h1, Int.toNat_natCast, hW.others j _ (fun e => he ?_) h2]
  have : x.2 = y.2 := h.index hx hy (by rw [h1, hyi, e])
  rw [nd_key hwf hx hy this]
theorem Link.born {S S' : SM} {B : BdM} (h : Link S B) (hfr : S.free ≠ []) {L' : List Part} {i : Nat} {g : Int} {g0 : Int} (hb : Born S S' L' i g) (hg : S.gens[i]? = some (g0, false)) {e : EK} (h1 : e.i = (i : Int)) (h2 : e.g = g) : Link S' ⟨B.l ++ [(B.nx, e)], B.nx + 1⟩ where
 live x hx := by
  have hil := (List.getElem?_eq_some_iff.1 hg).1
  rcases List.mem_append.1 hx with hx | hx
  ·obtain ⟨j, h3, h4⟩ := h.live x hx
   refine ⟨j, h3, ?_⟩
   rw [hb.gens, List.getElem?_set_ne (fun e => ?_)]
   ·exact h4
   ·subst e; rw [hg] at h4; cases h4
  ·have hx : x = (B.nx, e) := by simpa using hx
   subst hx
   refine ⟨i, h1, ?_⟩
   rw [hb.gens, List.getElem?_set, if_pos rfl, if_pos hil, h2]
 all j gj hj := by
  by_cases hji : i = j
  ·subst hji
   refine ⟨B.nx, e, by simp, h1, ?_⟩
   rw [hb.gens, List.getElem?_set, if_pos rfl] at hj
   split at hj
   ·have : g = gj := by simpa using hj
    rw [h2, this]
   ·cases hj
  ·rw [hb.gens, List.getElem?_set_ne hji] at hj
   obtain ⟨n, e', h3, h4, h5⟩ := h.all j gj hj
   exact ⟨n, e', List.mem_append_left _ h3, h4, h5⟩
 tm := hb.tabs
 cnt := by
  have h1 := h.cnt
  have h2 : 0 < S.free.length := List.length_pos_iff.2 hfr
  rw [hb.free, hb.gens, List.length_dropLast, List.length_set, List.length_append, List.length_singleton]
  omega
theorem view_born {S S' : SM} {B : BdM} (h : Link S B) {L' : List Part} {i : Nat} {g : Int} {g0 : Int} (hb : Born S S' L' i g) (hg : S.gens[i]? = some (g0, false)) {e : EK} (h1 : e.i = (i : Int)) : viewS S' ⟨B.l ++ [(B.nx, e)], B.nx + 1⟩ = viewS S B ++ [(B.nx, L')] := by
 unfold viewS
 rw [List.map_append]
 congr 1
 ·apply List.map_congr_left
  intro x hx
  obtain ⟨j, h3, h4⟩ := h.live x hx
  rw [h3, Int.toNat_natCast, hb.others j _ (fun e => ?_) h4]
  subst e; rw [hg] at h4; cases h4
 ·show [(B.nx, partsOf S' e.i.toNat)] = _
  rw [h1, Int.toNat_natCast, hb.parts]
theorem delB_nums {B : BdM} (hwf : B.WF) {k : Nat} (hk : k < B.l.length) : (delB B (B.l[k]).1).nums = B.nums.take k ++ B.nums.drop (k + 1) := by
 have e : (delB B (B.l[k]).1).l = B.l.take k ++ B.l.drop (k + 1) := by
  unfold delB
  have hsp : B.l = B.l.take k ++ B.l[k] :: B.l.drop (k + 1) := by
   rw [List.getElem_cons_drop, List.take_append_drop]
  have h1 : (B.l.take k).filter (fun y => decide (y.1 ≠ (B.l[k]).1)) = B.l.take k := by
   refine List.filter_eq_self.2 fun x hx => ?_
   obtain ⟨i, hi, rfl⟩ := List.mem_iff_getElem.1 hx
   rw [List.length_take] at hi
   rw [List.getElem_take]
   simp only [ne_eq, decide_not, Bool.not_eq_true', decide_eq_false_iff_not]
   intro e
   have := (List.pairwise_iff_getElem.1 hwf.asc) i k (by simp; omega) (by simpa using hk) (by omega)
   simp only [List.getElem_map] at this
   omega
  have h2 : (B.l.drop (k + 1)).filter (fun y => decide (y.1 ≠ (B.l[k]).1)) = B.l.drop (k + 1) := by
   refine List.filter_eq_self.2 fun x hx => ?_
   obtain ⟨i, hi, rfl⟩ := List.mem_iff_getElem.1 hx
   rw [List.length_drop] at hi
   rw [List.getElem_drop]
   simp only [ne_eq, decide_not, Bool.not_eq_true', decide_eq_false_iff_not]
   intro e
   have := (List.pairwise_iff_getElem.1 hwf.asc) k (k + 1 + i) (by simpa using hk) (by simp; omega) (by omega)
   simp only [List.getElem_map] at this
   omega
  have h3 := congrArg (List.filter fun y => decide (y.1 ≠ (B.l[k]).1)) hsp
  rw [List.filter_append, h1, List.filter_cons_of_neg (by simp), h2] at h3
  exact h3
 unfold BdM.nums
 rw [e, List.map_append, List.map_take, List.map_drop]
theorem Link.gone {S S' : SM} {B : BdM} (h : Link S B) (hwf : B.WF) {y : Nat × EK} (hy : y ∈ B.l) {i : Nat} (hyi : y.2.i = (i : Int)) (hgens : S'.gens = S.gens.set i (y.2.g, false)) (hfree : S'.free = S.free ++ [i]) (htm : S'.tabs.length = S'.masks.length) : Link S' (delB B y.1) where
 live x hx := by
  obtain ⟨hx, hne⟩ := List.mem_filter.1 hx
  have hne : x.1 ≠ y.1 := by simpa using hne
  obtain ⟨j, h3, h4⟩ := h.live x hx
  refine ⟨j, h3, ?_⟩
  rw [hgens, List.getElem?_set_ne (fun e => hne ?_)]
  ·exact h4
  ·rw [nd_key hwf hx hy (h.index hx hy (by rw [h3, hyi, e]))]
 all j gj hj := by
  rw [hgens] at hj
  by_cases hji : i = j
  ·subst hji
   rw [List.getElem?_set, if_pos rfl] at hj
   split at hj
   ·simp at hj
   ·cases hj
  ·rw [List.getElem?_set_ne hji] at hj
   obtain ⟨n, e', h3, h4, h5⟩ := h.all j gj hj
   refine ⟨n, e', List.mem_filter.2 ⟨h3, ?_⟩, h4, h5⟩
   simp only [ne_eq, decide_not, Bool.not_eq_true', decide_eq_false_iff_not]
   intro hn
   have := nd_num hwf h3 hy hn
   apply hji
   have h6 : e'.i = y.2.i := congrArg (fun z : Nat × EK => z.2.i) this
   omega
 tm := htm
 cnt := by
  have h1 := h.cnt
  obtain ⟨k, hk, rfl⟩ := List.mem_iff_getElem.1 hy
  have h2 := congrArg List.length (delB_nums hwf hk)
  unfold BdM.nums at h2
  simp only [List.length_map, List.length_append, List.length_take, List.length_drop] at h2
  rw [hfree, hgens, List.length_set, List.length_append, List.length_singleton]
  omega
theorem view_gone {S S' : SM} {B : BdM} (h : Link S B) (hwf : B.WF) {y : Nat × EK} (hy : y ∈ B.l) {i : Nat} (hyi : y.2.i = (i : Int)) (hoth : ∀ j gj, j ≠ i → S.gens[j]? = some (gj, true) → partsOf S' j = partsOf S j) : viewS S' (delB B y.1) = delV (viewS S B) y.1 := by
 unfold viewS delV delB
 rw [List.filter_map]
 show (B.l.filter _).map _ = (B.l.filter _).map _
 have : B.l.filter ((fun y_1 : Nat × List Part => decide (y_1.1 ≠ y.1)) ∘ fun x : Nat × EK => (x.1, partsOf S x.2.i.toNat)) = B.l.filter fun z => decide (z.1 ≠ y.1) := rfl
 rw [this]
 apply List.map_congr_left
 intro x hx
 obtain ⟨hx, hne⟩ := List.mem_filter.1 hx
 have hne : x.1 ≠ y.1 := by simpa using hne
 obtain ⟨j, h3, h4⟩ := h.live x hx
 rw [h3, Int.toNat_natCast, hoth j _ (fun e => hne ?_) h4]
 rw [nd_key hwf hx hy (h.index hx hy (by rw [h3, hyi, e]))]
theorem delB_wf {B : BdM} (h : B.WF) (n : Nat) : (delB B n).WF where
 asc := by
  have := h.asc
  rw [List.pairwise_map] at this ⊢
  exact List.Pairwise.filter _ this
 lt x hx := h.lt x (List.mem_filter.1 hx).1
 nd := by
  have := h.nd
  unfold List.Nodup at this ⊢
  rw [List.pairwise_map] at this ⊢
  exact List.Pairwise.filter _ this
 pos := h.pos
theorem find_filter_ne {α : Type} {p q : α → Bool} (l : List α) (h : ∀ x ∈ l, p x = true → q x = true) : (l.filter q).find? p = l.find? p := by
 induction l with
 | nil => rfl
 | cons x l ih =>
  have ih := ih fun y hy => h y (List.mem_cons_of_mem _ hy)
  by_cases hp : p x = true
  ·have hq := h x List.mem_cons_self hp
   rw [List.filter_cons_of_pos hq, List.find?_cons_of_pos hp, List.find?_cons_of_pos hp]
  ·by_cases hq : q x = true
   ·rw [List.filter_cons_of_pos hq, List.find?_cons_of_neg hp, List.find?_cons_of_neg hp, ih]
   ·rw [List.filter_cons_of_neg hq, List.find?_cons_of_neg hp, ih]
theorem delB_own {B : BdM} (n : Nat) : (delB B n).own = fun m => if m = ((n : Nat) : Int) then none else B.own m := by
 funext m
 unfold BdM.own delB
 by_cases hm : m = ((n : Nat) : Int)
 ·subst hm
  rw [if_pos rfl, Option.map_eq_none_iff, List.find?_eq_none]
  intro x hx
  have := (List.mem_filter.1 hx).2
  simp at this ⊢
  omega
 ·rw [if_neg hm]
  show ((B.l.filter _).find? _).map _ = _
  rw [find_filter_ne]
  intro x hx hp
  simp at hp ⊢
  intro e
  apply hm
  rw [← hp, e]
theorem delB_ids {B : BdM} (hwf : B.WF) {y : Nat × EK} (hy : y ∈ B.l) : (delB B y.1).ids = fun e => if e = y.2 then none else B.ids e := by
 funext e
 unfold BdM.ids delB
 by_cases hm : e = y.2
 ·subst hm
  rw [if_pos rfl, Option.map_eq_none_iff, List.find?_eq_none]
  intro x hx
  obtain ⟨h1, h2⟩ := List.mem_filter.1 hx
  simp at h2 ⊢
  intro e
  exact h2 (by rw [nd_key hwf h1 hy e])
 ·rw [if_neg hm]
  show ((B.l.filter _).find? _).map _ = _
  rw [find_filter_ne]
  intro x hx hp
  simp at hp ⊢
  intro e2
  apply hm
  rw [← hp, nd_num hwf hx hy e2]
end
end Go.Proofs.YtmidldeaapdjoaaGreatDoor
namespace Go.Proofs.YtmidldeaapdjoaaGreatDoor
open Go.Shelf
section
def delInt_ren : Go.Shelf.Ren := ⟨fun | 23 => 204 | n => n, fun | 22 => 85 | 3 => 3 | 4 => 4 | 0 => 0 | n => n, fun | n => n⟩
theorem delInt : Go.Proofs.Lays2.n23 Tryz.prog delInt_ren := {
 mixed := by kernel_rfl
 f23 := Tryz.func204.trans (congrArg some (by kernel_rfl))
 t0 := Tryz.underlying0
 a0 := Tryz.isAgg0
 z0 := Tryz.sizeOf0
 v0 := Tryz.zeroValue0
 t3 := Tryz.underlying3
 a3 := Tryz.isAgg3
 z3 := Tryz.sizeOf3
 v3 := Tryz.zeroValue3
 t4 := Tryz.underlying4
 a4 := Tryz.isAgg4
 z4 := Tryz.sizeOf4
 v4 := Tryz.zeroValue4
 t22 := Tryz.underlying85
 a22 := Tryz.isAgg85
 z22 := Tryz.sizeOf85
 v22 := Tryz.zeroValue85
 i3 := by kernel_rfl }
end
end Go.Proofs.YtmidldeaapdjoaaGreatDoor
