/-
Lemmas for the statements of this seat: no statement of the seat is proved in this part (4 of 7); the conditions stand in each theorem.
-/
import Derived.Test.YtenokhokboicnaaGreatDoorMend3
import Derived.Test.YtenokhokboicnaaGreatDoorProg
import Derived.Lib.ConvBytes
import Derived.DeepKeys
import Derived.Laws.StructEq
import Derived.WideKeyRuns
import Derived.DeepKeys3
set_option linter.unusedSimpArgs false
set_option linter.unusedVariables false
set_option maxRecDepth 100000
namespace Go.Proofs.YtenokhokboicnaaGreatDoor
open Go Go.Ev
section
attribute [local irreducible] kO kB kStr kInt kN kG kIf kfld kld kldN kst knew kmap kbld kbldS kext kcnv klenStr klen kcap kprt kprtN kbool kint kstr keq kun ksl kix kiv kta kmk kmm ksem ksemU kextf kcallV kcallM kcall kL
theorem comps_mask {cs : List Comp} (hcs : cs.length ≤ 16) {P : List Part} (hf : ∀ q ∈ P, FitsP cs q) {m : Nat} (hm : m < 2 ^ cs.length) (hc : P.map (·.comp) = (listF m).map (fun c : Nat => (c : Int))) : maskP P = m := by
 apply Nat.eq_of_testBit_eq
 intro c
 rw [Bool.eq_iff_iff, maskP_bit cs hcs P hf c]
 constructor
 ·rintro ⟨q, hq, e⟩
  have h1 : q.comp ∈ (listF m).map (fun c : Nat => (c : Int)) := hc ▸ List.mem_map.2 ⟨q, hq, rfl⟩
  obtain ⟨d, hd, e2⟩ := List.mem_map.1 h1
  have : d = c := by omega
  subst this
  exact (listF_mem.1 hd).2
 ·intro hb
  have hcl : c < cs.length := by
   rcases Nat.lt_or_ge c cs.length with h | h
   ·exact h
   ·have : m < 2 ^ c := Nat.lt_of_lt_of_le hm (Nat.pow_le_pow_right (by omega) h)
    rw [Nat.testBit_lt_two_pow this] at hb; cases hb
  have h1 : (c : Int) ∈ P.map (·.comp) := hc ▸ List.mem_map.2 ⟨c, listF_mem.2 ⟨by omega, hb⟩, rfl⟩
  obtain ⟨q, hq, e⟩ := List.mem_map.1 h1
  exact ⟨q, hq, e⟩
theorem parts_ok {o : Lab} {w : World} {b : Nat} {p : Ptrs} {S : SM} (h : StoreP o w b p S) {t : Nat} (hG : GS S t) {i : Nat} {g : Int} (hg : S.gens[i]? = some (g, true)) :
  ∃ n r, S.spots[i]? = some (n, r) ∧ ∃ hn : n < S.tabs.length, ∃ hnm : n < S.masks.length, (∀ c ∈ compsM S.masks n, r < (S.tabs[n].col c).length) ∧ partsOf S i = (compsM S.masks n).map (partAt S.tabs[n] r) ∧ compsM S.masks n = listF S.masks[n] ∧
   (partsOf S i).map (·.comp) = (listF S.masks[n]).map (fun c : Nat => (c : Int)) ∧ (∀ q ∈ partsOf S i, FitsP S.cs q) ∧ maskP (partsOf S i) = S.masks[n] ∧ S.masks[n] < 2 ^ S.cs.length ∧ ∀ c ∈ compsM S.masks n, (partAt S.tabs[n] r c).comp = (c : Int) := by
 obtain ⟨n, r, T, h1, h2, h3⟩ := hG.wf.live i g hg (fun h => h)
 obtain ⟨hn, e⟩ := List.getElem?_eq_some_iff.1 h2
 subst e
 have hr := (List.getElem?_eq_some_iff.1 h3).1
 have hnm : n < S.masks.length := Nat.lt_of_lt_of_le hn h.tle
 have hcol : ∀ c ∈ compsM S.masks n, r < (S.tabs[n].col c).length := fun c hc => by rw [hG.wf.cols n _ c h2 hc]; exact hr
 have hpe := partsOf_eq h1 h2
 have hce : compsM S.masks n = listF S.masks[n] := by unfold compsM; rw [List.getElem?_eq_getElem hnm]
 have hmk := mk_of h _ (List.getElem_mem hnm)
 have hcomp : ∀ c ∈ compsM S.masks n, (partAt S.tabs[n] r c).comp = (c : Int) ∧ (partAt S.tabs[n] r c).clean (wdF S.cs c) := fun c hc => by
  obtain ⟨_, _, _, _, _, h6, _⟩ := (h.tab n hn).col hc
  have := h6 _ (List.getElem_mem (hcol c hc))
  simp only [partAt, List.getElem?_eq_getElem (hcol c hc), Option.getD_some]
  exact this
 have hmap : (partsOf S i).map (·.comp) = (listF S.masks[n]).map (fun c : Nat => (c : Int)) := by
  rw [hpe, List.map_map, hce]
  exact List.map_congr_left fun c hc => (hcomp c (hce ▸ hc)).1
 have hfit : ∀ q ∈ partsOf S i, FitsP S.cs q := fun q hq => by
  rw [hpe] at hq
  obtain ⟨c, hc, rfl⟩ := List.mem_map.1 hq
  obtain ⟨e1, e2⟩ := hcomp c hc
  exact ⟨c, e1, listF_lt hmk (hce ▸ hc), e2⟩
 exact ⟨n, r, h1, hn, hnm, hcol, hpe, hce, hmap, hfit, comps_mask h.good.1 hfit hmk hmap, hmk, fun c hc => (hcomp c hc).1⟩
end
section
attribute [local irreducible] kO kB kStr kInt kN kG kIf kfld kld kldN kst knew kmap kbld kbldS kext kcnv klenStr klen kcap kprt kprtN kbool kint kstr keq kun ksl kix kiv kta kmk kmm ksem ksemU kextf kcallV kcallM kcall kL
end
section
attribute [local irreducible] kO kB kStr kInt kN kG kIf kfld kld kldN kst knew kmap kbld kbldS kext kcnv klenStr klen kcap kprt kprtN kbool kint kstr keq kun ksl kix kiv kta kmk kmm ksem ksemU kextf kcallV kcallM kcall kL
end
section
def Just (L : List (Int × Int)) (P : Nat → Int → Prop) : Prop := L.Nodup ∧ L.Pairwise (fun x y => x.1 ≤ y.1) ∧ ∀ e, e ∈ L ↔ ∃ (i : Nat) (g : Int), e = ((i : Int), g) ∧ P i g
end
section
def putS (S : SM) (n r c : Nat) (q : Part) (hn : n < S.tabs.length) : SM := { S with tabs := S.tabs.set n ⟨S.tabs[n].rows, updC S.tabs[n].col c ((S.tabs[n].col c).set r q)⟩ }
structure PutS (S S' : SM) (i c : Nat) (q : Part) : Prop where
 gens : S'.gens = S.gens
 cs : S'.cs = S.cs
 masks : S'.masks = S.masks
 tabs : S'.tabs.length = S.tabs.length
 free : S'.free = S.free
 parts : partsOf S' i = (partsOf S i).map fun x => if x.comp = (c : Int) then q else x
 others : ∀ j gj, j ≠ i → S.gens[j]? = some (gj, true) → partsOf S' j = partsOf S j
theorem putS_tabs {S : SM} {n r c : Nat} {q : Part} (hn : n < S.tabs.length) (k : Nat) : (putS S n r c q hn).tabs[k]? = if k = n then some ⟨S.tabs[n].rows, updC S.tabs[n].col c ((S.tabs[n].col c).set r q)⟩ else S.tabs[k]? := by
 unfold putS
 rw [List.getElem?_set]
 by_cases h : n = k
 ·subst h; rw [if_pos rfl, if_pos hn, if_pos rfl]
 ·rw [if_neg h, if_neg (fun e => h e.symm)]
theorem GS.put {S : SM} {t : Nat} (h : GS S t) {i : Nat} {g : Int} (hg : S.gens[i]? = some (g, true)) {n r : Nat} (hs : S.spots[i]? = some (n, r)) (hn : n < S.tabs.length) {c : Nat} (hc : c ∈ compsM S.masks n) (hr : r < (S.tabs[n].col c).length)
  (hpc : ∀ d ∈ compsM S.masks n, (partAt S.tabs[n] r d).comp = (d : Int)) (q : Part) :
  GS (putS S n r c q hn) t ∧ PutS S (putS S n r c q hn) i c q := by
 have hTn : S.tabs[n]? = some S.tabs[n] := List.getElem?_eq_getElem hn
 have hT' := putS_tabs (r := r) (c := c) (q := q) hn
 have hsp : (putS S n r c q hn).spots = S.spots := rfl
 have hcol : ∀ d, ((updC S.tabs[n].col c ((S.tabs[n].col c).set r q)) d).length = (S.tabs[n].col d).length := fun d => by
  by_cases hd : d = c
  ·subst hd; rw [updC_same, List.length_set]
  ·rw [updC_ne _ hd]
 refine ⟨⟨⟨h.wf.gs, fun j gj hgj _ => ?_, fun n' T r' e hT hre => ?_, fun n' T d hT hd => ?_⟩, h.fr, h.gen, h.ml, h.g64⟩, ⟨rfl, rfl, rfl, by simp [putS], rfl, ?_, fun j gj hj hgj => ?_⟩⟩
 ·obtain ⟨n', r', T', h1, h2, h3⟩ := h.wf.live j gj hgj (fun h => h)
  by_cases hnn : n' = n
  ·subst hnn
   rw [hTn] at h2; cases h2
   exact ⟨n', r', _, h1, (hT' n').trans (if_pos rfl), h3⟩
  ·exact ⟨n', r', T', h1, by rw [hT', if_neg hnn]; exact h2, h3⟩
 ·rw [hT'] at hT
  by_cases hnn : n' = n
  ·subst hnn
   rw [if_pos rfl] at hT
   cases hT
   exact h.wf.rows n' _ r' e hTn hre
  ·rw [if_neg hnn] at hT
   exact h.wf.rows n' T r' e hT hre
 ·rw [hT'] at hT
  by_cases hnn : n' = n
  ·subst hnn
   rw [if_pos rfl] at hT
   cases hT
   show (updC _ _ _ d).length = _
   rw [hcol d]
   exact h.wf.cols n' _ d hTn hd
  ·rw [if_neg hnn] at hT
   exact h.wf.cols n' T d hT hd
 ·rw [partsOf_eq hs hTn, partsOf_eq (S := putS S n r c q hn) hs (by rw [hT', if_pos rfl]), List.map_map]
  refine List.map_congr_left fun d hd => ?_
  have e := hpc d hd
  show ((updC S.tabs[n].col c ((S.tabs[n].col c).set r q) d)[r]?).getD _ = if (partAt S.tabs[n] r d).comp = (c : Int) then q else partAt S.tabs[n] r d
  by_cases hdc : d = c
  ·subst hdc
   rw [if_pos e, updC_same, List.getElem?_set, if_pos rfl, if_pos hr]; rfl
  ·rw [if_neg (by omega), updC_ne _ hdc]; rfl
 ·obtain ⟨n', r', T', h1, h2, h3⟩ := h.wf.live j gj hgj (fun h => h)
  by_cases hnn : n' = n
  ·subst hnn
   rw [hTn] at h2; cases h2
   have hrr : r' ≠ r := fun e => by
    subst e
    obtain ⟨n2, r2, T2, k1, k2, k3⟩ := h.wf.live i g hg (fun h => h)
    rw [hs] at k1; cases k1
    rw [hTn] at k2; cases k2
    rw [h3] at k3
    simp at k3; omega
   rw [partsOf_eq h1 hTn, partsOf_eq (S := putS S n' r c q hn) h1 (by rw [hT', if_pos rfl])]
   refine List.map_congr_left fun d hd => ?_
   show ((updC S.tabs[n'].col c ((S.tabs[n'].col c).set r q) d)[r']?).getD _ = ((S.tabs[n'].col d)[r']?).getD _
   by_cases hdc : d = c
   ·subst hdc
    rw [updC_same, List.getElem?_set_ne (fun e => hrr e.symm)]
   ·rw [updC_ne _ hdc]
  ·rw [partsOf_eq h1 h2, partsOf_eq (S := putS S n r c q hn) h1 (by rw [hT', if_neg hnn]; exact h2)]; rfl
theorem part_at {o : Lab} {w : World} {b : Nat} {p : Ptrs} {S : SM} (h : StoreP o w b p S) {t : Nat} (hG : GS S t) {i : Nat} {g : Int} (hg : S.gens[i]? = some (g, true)) {c : Nat} {q : Part} (hq : q ∈ partsOf S i) (hqc : q.comp = (c : Int)) :
  ∃ n r, S.spots[i]? = some (n, r) ∧ ∃ hn : n < S.tabs.length, ∃ hcm : c ∈ compsM S.masks n, ∃ hr : r < (S.tabs[n].col c).length, (S.tabs[n].col c)[r] = q ∧ ∀ d ∈ compsM S.masks n, (partAt S.tabs[n] r d).comp = (d : Int) := by
 obtain ⟨n, r, hsp, hn, hnm, hcol, hpe, hce, hmap, hfit, hmk, hmlt, hpc⟩ := parts_ok h hG hg
 rw [hpe] at hq
 obtain ⟨d, hd, rfl⟩ := List.mem_map.1 hq
 have hdc : d = c := by have := hpc d hd; omega
 subst hdc
 refine ⟨n, r, hsp, hn, hd, hcol d hd, ?_, hpc⟩
 simp only [partAt, List.getElem?_eq_getElem (hcol d hd), Option.getD_some]
theorem get_at {o : Lab} {w : World} {b : Nat} {p : Ptrs} {S : SM} (h : StoreP o w b p S) {t : Nat} (hG : GS S t) {i : Nat} {g : Int} (hg : S.gens[i]? = some (g, true)) {c : Nat} {q : Part} (hq : q ∈ partsOf S i) (hqc : q.comp = (c : Int)) :
  Meets Tryz.prog 225 #[ptrV b, entV i g, .int .i64 c] w fun v w' => v = .tuple #[.agg q.cells.toArray, .nilIface] ∧ Same w w' := by
 obtain ⟨n, r, hsp, hn, hcm, hr, rfl, _⟩ := part_at h hG hg hq hqc
 exact sGet_spec h hg hsp hn hcm hr
theorem set_at {o : Lab} {w : World} {b : Nat} {p : Ptrs} {S : SM} (h : StoreP o w b p S) {t : Nat} (hG : GS S t) {i : Nat} {g : Int} (hg : S.gens[i]? = some (g, true)) {c : Nat} {q : Part} (hq : q ∈ partsOf S i) (hqc : q.comp = (c : Int)) {cell : Nat} (hcell : cell < wdF S.cs c) (value frame : Int) :
  Meets Tryz.prog 196 #[ptrV b, entV i g, .int .i64 c, .int .i64 cell, .int .i64 value, .int .i64 frame] w fun v w' => v = .tuple #[.agg q.cells.toArray, .nilIface] ∧ ∃ S', GS S' t ∧ PutS S S' i c (q.setCell cell value frame) ∧ Turned o w b S' w' := by
 obtain ⟨n, r, hsp, hn, hcm, hr, rfl, hpc⟩ := part_at h hG hg hq hqc
 refine (sSet_spec h hg hsp hn hcm hr hcell value frame).mono ?_
 rintro v w' ⟨rfl, ht⟩
 obtain ⟨k1, k2⟩ := hG.put hg hsp hn hcm hr hpc (((S.tabs[n].col c)[r]).setCell cell value frame)
 exact ⟨rfl, _, k1, k2, ht⟩
end
section
def f22_3 (x1 x3 x18 x19 : Value) (J5 : Value → World → Prop) (Q : PQ) (w : World) : Prop :=
 kint .i64 .add x19 (.int .i64 1) fun v24 =>
 J5 v24 w
def f22_2 (x1 x3 x18 x19 : Value) (J5 : Value → World → Prop) (Q : PQ) (w : World) : Prop :=
 kldN 2 x1 w fun v21 =>
 kcall Tryz.prog 55 #[x3, v21, x19] w fun v22 w23 =>
 f22_3 x1 x3 x18 x19 J5 Q w23
def f22_8 (x1 x3 x37 x38 : Value) (J12 : Value → World → Prop) (Q : PQ) (w : World) : Prop :=
 kint .i64 .add x38 (.int .i64 1) fun v43 =>
 J12 v43 w
def f22_7 (x1 x3 x37 x38 : Value) (J12 : Value → World → Prop) (Q : PQ) (w : World) : Prop :=
 kldN 2 x1 w fun v40 =>
 kcall Tryz.prog 56 #[x3, v40, x38] w fun v41 w42 =>
 f22_8 x1 x3 x37 x38 J12 Q w42
def f22_9 (x3 : Value) (Q : PQ) (w : World) : Prop :=
 kN x3 <|
 kfld 0 x3 fun v44 =>
 kld v44 w fun v45 =>
 kcall Tryz.prog 24 #[v45] w fun v46 w47 =>
 Q v46 w47
def f22_6 (x38 x1 x3 x37 : Value) (J12 : Value → World → Prop) (Q : PQ) (w : World) : Prop :=
 kint .i64 .lss x38 x37 fun v39 =>
 kB v39 fun b48 => kIf b48
 (f22_7 x1 x3 x37 x38 J12 Q w)
 (f22_9 x3 Q w)
def f22_5 (x1 x3 : Value) (Q : PQ) (w : World) : Prop :=
 kfld 1 x1 fun v35 =>
 kld v35 w fun v36 =>
 klen v36 fun v37 =>
 kL fun (I : Value → World → Prop) (μ : Value → World → Nat) => I (.int .i64 0) w ∧ ∀ (x38 : Value) (w1 : World), I x38 w1 →
 f22_6 x38 x1 x3 v37 (fun y38 w2 => I y38 w2 ∧ μ y38 w2 < μ x38 w1) Q w1
def f22_4 (x1 x3 : Value) (Q : PQ) (w : World) : Prop :=
 kfld 1 x1 fun v25 =>
 kld v25 w fun v26 =>
 klen v26 fun v27 =>
 kint .i64 .gtr v27 (.int .i64 8) fun v29 =>
 kB v29 fun b49 => kIf b49
 (kld (.pointer (some ⟨5, 0, none⟩)) w fun v30 =>
 kbldS [(.string ⟨#[]⟩)] 1 [(0, 1, (.string ⟨#[114, 101, 115, 111, 117, 114, 99, 101, 115]⟩))] 9 w fun v31 w32 =>
 kcall Tryz.prog 54 #[x3, v30, v31] w32 fun v33 w34 =>
 f22_5 x1 x3 Q w34)
 (f22_5 x1 x3 Q w)
def f22_1 (x19 x1 x3 x18 : Value) (J5 : Value → World → Prop) (Q : PQ) (w : World) : Prop :=
 kint .i64 .lss x19 x18 fun v20 =>
 kB v20 fun b50 => kIf b50
 (f22_2 x1 x3 x18 x19 J5 Q w)
 (f22_4 x1 x3 Q w)
def f22_0 (x1 x3 : Value) (Q : PQ) (w : World) : Prop :=
 kfld 0 x1 fun v16 =>
 kld v16 w fun v17 =>
 klen v17 fun v18 =>
 kL fun (I : Value → World → Prop) (μ : Value → World → Nat) => I (.int .i64 0) w ∧ ∀ (x19 : Value) (w1 : World), I x19 w1 →
 f22_1 x19 x1 x3 v18 (fun y19 w2 => I y19 w2 ∧ μ y19 w2 < μ x19 w1) Q w1
def f22 (x0 : Value) (Q : PQ) (w : World) : Prop :=
 knew (Value.cells x0) 25 w fun v1 w2 =>
 kbld [.slice none 0 0] [] fun v3 =>
 knew (Value.cells v3) 133 w2 fun v4 w5 =>
 kfld 0 v1 fun v6 =>
 kld v6 w5 fun v7 =>
 klen v7 fun v8 =>
 kint .i64 .gtr v8 (.int .i64 16) fun v10 =>
 kB v10 fun b51 => kIf b51
 (kld (.pointer (some ⟨5, 0, none⟩)) w5 fun v11 =>
 kbldS [(.string ⟨#[]⟩)] 1 [(0, 1, (.string ⟨#[99, 111, 109, 112, 111, 110, 101, 110, 116, 115]⟩))] 9 w5 fun v12 w13 =>
 kcall Tryz.prog 54 #[v4, v11, v12] w13 fun v14 w15 =>
 f22_0 v1 v4 Q w15)
 (f22_0 v1 v4 Q w5)
theorem f22_ok {x0 : Value} {Q : PQ} {w : World} (h : f22 x0 Q w) : Meets Tryz.prog 22 #[x0] w Q :=
 sound' (c := Tryz.f22.body.get rfl) [(5, [19]), (12, [38])] Tryz.func22 rfl rfl (args := [x0]) rfl (by kernel_rfl) h
def f55_1 (x0 x6 x9 x35 : Value) (Q : PQ) (w : World) : Prop :=
 kB x35 fun b47 => kIf b47
 (kld (.pointer (some ⟨2, 0, none⟩)) w fun v32 =>
 kbldS [(.string ⟨#[]⟩)] 3 [(0, 1, (.string ⟨#[99, 111, 109, 112, 111, 110, 101, 110, 116, 115]⟩)), (1, 1, x9), (2, 1, (.string ⟨#[119, 105, 100, 116, 104]⟩))] 9 w fun v33 w34 =>
 kcall Tryz.prog 54 #[x0, v32, v33] w34 fun v35 w36 =>
 Q (.tuple #[]) w36)
 (kldN 7 x6 w fun v37 =>
 kcall Tryz.prog 107 #[v37] w fun v38 w39 =>
 kun .not (some .bool) v38 fun v40 =>
 kB v40 fun b46 => kIf b46
 (kld (.pointer (some ⟨2, 0, none⟩)) w39 fun v41 =>
 kbldS [(.string ⟨#[]⟩)] 3 [(0, 1, (.string ⟨#[99, 111, 109, 112, 111, 110, 101, 110, 116, 115]⟩)), (1, 1, x9), (2, 1, (.string ⟨#[100, 101, 102, 97, 117, 108, 116]⟩))] 9 w39 fun v42 w43 =>
 kcall Tryz.prog 54 #[x0, v41, v42] w43 fun v44 w45 =>
 Q (.tuple #[]) w45)
 (Q (.tuple #[]) w39))
def f55_0 (x0 x2 x6 : Value) (Q : PQ) (w : World) : Prop :=
 kcall Tryz.prog 60 #[x2] w fun v23 w24 =>
 kfld 1 x6 fun v25 =>
 kld v25 w24 fun v26 =>
 kint .i64 .lss v26 (.int .i64 1) fun v27 =>
 kB v27 fun b28 => kIf (!b28)
 (kfld 1 x6 fun v29 =>
 kld v29 w24 fun v30 =>
 kint .i64 .gtr v30 (.int .i64 4) fun v31 =>
 f55_1 x0 x6 v23 v31 Q w24)
 (f55_1 x0 x6 v23 (.bool true) Q w24)
def f55 (x0 x1 x2 : Value) (Q : PQ) (w : World) : Prop :=
 knew (Value.cells x1) 25 w fun v1 w2 =>
 kfld 0 v1 fun v3 =>
 kld v3 w2 fun v4 =>
 kix (some (.slice 80)) (some 7) v4 x2 fun v5 =>
 kldN 7 v5 w2 fun v6 =>
 knew #[(.string ⟨#[]⟩), .int .i64 0, .bool false, .int .i64 0, .int .i64 0, .int .i64 0, .int .i64 0] 80 w2 fun v7 w8 =>
 kst 7 v7 v6 w8 fun w9 =>
 kldN 2 v1 w9 fun v10 =>
 kfld 0 v7 fun v11 =>
 kld v11 w9 fun v12 =>
 kcall Tryz.prog 105 #[v10, v12] w9 fun v13 w14 =>
 kext v13 0 fun v15 =>
 kext v13 1 fun v16 =>
 kfld 0 v7 fun v17 =>
 kld v17 w14 fun v18 =>
 kB v16 fun b19 => kIf b19
 (kint .i64 .lss v15 x2 fun v20 =>
 kcall Tryz.prog 106 #[x0, v18, v20, (.string ⟨#[99, 111, 109, 112, 111, 110, 101, 110, 116, 115]⟩), x2] w14 fun v21 w22 =>
 f55_0 x0 x2 v7 Q w22)
 (kcall Tryz.prog 106 #[x0, v18, .bool false, (.string ⟨#[99, 111, 109, 112, 111, 110, 101, 110, 116, 115]⟩), x2] w14 fun v48 w49 =>
 f55_0 x0 x2 v7 Q w49)
theorem f55_ok {x0 x1 x2 : Value} {Q : PQ} {w : World} (h : f55 x0 x1 x2 Q w) : Meets Tryz.prog 55 #[x0, x1, x2] w Q :=
 sound' (c := Tryz.f55.body.get rfl) [] Tryz.func55 rfl rfl (args := [x0, x1, x2]) rfl (by kernel_rfl) h
def f106 (x0 x1 x2 x3 x4 : Value) (Q : PQ) (w : World) : Prop :=
 kcall Tryz.prog 60 #[x4] w fun v1 w2 =>
 kcall Tryz.prog 160 #[x1] w2 fun v3 w4 =>
 kun .not (some .bool) v3 fun v5 =>
 kB v5 fun b17 => kIf b17
 (kld (.pointer (some ⟨14, 0, none⟩)) w4 fun v6 =>
 kbldS [(.string ⟨#[]⟩)] 3 [(0, 1, x3), (1, 1, v1), (2, 1, (.string ⟨#[110, 97, 109, 101]⟩))] 9 w4 fun v7 w8 =>
 kcall Tryz.prog 54 #[x0, v6, v7] w8 fun v9 w10 =>
 Q (.tuple #[]) w10)
 (kB x2 fun b16 => kIf b16
 (kld (.pointer (some ⟨1, 0, none⟩)) w4 fun v11 =>
 kbldS [(.string ⟨#[]⟩)] 3 [(0, 1, x3), (1, 1, v1), (2, 1, (.string ⟨#[110, 97, 109, 101]⟩))] 9 w4 fun v12 w13 =>
 kcall Tryz.prog 54 #[x0, v11, v12] w13 fun v14 w15 =>
 Q (.tuple #[]) w15)
 (Q (.tuple #[]) w4))
theorem f106_ok {x0 x1 x2 x3 x4 : Value} {Q : PQ} {w : World} (h : f106 x0 x1 x2 x3 x4 Q w) : Meets Tryz.prog 106 #[x0, x1, x2, x3, x4] w Q :=
 sound' (c := Tryz.f106.body.get rfl) [] Tryz.func106 rfl rfl (args := [x0, x1, x2, x3, x4]) rfl (by kernel_rfl) h
def f56 (x0 x1 x2 : Value) (Q : PQ) (w : World) : Prop :=
 knew (Value.cells x1) 25 w fun v1 w2 =>
 kfld 1 v1 fun v3 =>
 kld v3 w2 fun v4 =>
 kix (some (.slice 82)) (some 2) v4 x2 fun v5 =>
 kfld 0 v5 fun v6 =>
 kld v6 w2 fun v7 =>
 kldN 2 v1 w2 fun v8 =>
 kcall Tryz.prog 105 #[v8, v7] w2 fun v9 w10 =>
 kext v9 0 fun v11 =>
 kext v9 1 fun v12 =>
 kldN 2 v1 w10 fun v13 =>
 kcall Tryz.prog 108 #[v13, v7] w10 fun v14 w15 =>
 kext v14 0 fun v16 =>
 kext v14 1 fun v17 =>
 kB v12 fun b18 => kIf (!b18)
 (kB v17 fun b19 => kIf b19
 (kint .i64 .lss v16 x2 fun v20 =>
 kcall Tryz.prog 106 #[x0, v7, v20, (.string ⟨#[114, 101, 115, 111, 117, 114, 99, 101, 115]⟩), x2] w15 fun v21 w22 =>
 Q (.tuple #[]) w22)
 (kcall Tryz.prog 106 #[x0, v7, .bool false, (.string ⟨#[114, 101, 115, 111, 117, 114, 99, 101, 115]⟩), x2] w15 fun v23 w24 =>
 Q (.tuple #[]) w24))
 (kcall Tryz.prog 106 #[x0, v7, .bool true, (.string ⟨#[114, 101, 115, 111, 117, 114, 99, 101, 115]⟩), x2] w15 fun v25 w26 =>
 Q (.tuple #[]) w26)
theorem f56_ok {x0 x1 x2 : Value} {Q : PQ} {w : World} (h : f56 x0 x1 x2 Q w) : Meets Tryz.prog 56 #[x0, x1, x2] w Q :=
 sound' (c := Tryz.f56.body.get rfl) [] Tryz.func56 rfl rfl (args := [x0, x1, x2]) rfl (by kernel_rfl) h
def f105 (x0 x1 : Value) (Q : PQ) (w : World) : Prop :=
 knew (Value.cells x0) 25 w fun v1 w2 =>
 knew (Value.cells x1) 9 w2 fun v3 w4 =>
 kfld 0 v1 fun v5 =>
 kld v5 w4 fun v6 =>
 kcall Tryz.prog 158 #[v6, (.func (.func 159) #[] #[v3])] w4 fun v7 w8 =>
 kmm .i64 true v7 (.int .i64 0) fun v9 =>
 kint .i64 .geq v7 (.int .i64 0) fun v11 =>
 Q (.tuple #[v9, v11]) w8
theorem f105_ok {x0 x1 : Value} {Q : PQ} {w : World} (h : f105 x0 x1 Q w) : Meets Tryz.prog 105 #[x0, x1] w Q :=
 sound' (c := Tryz.f105.body.get rfl) [] Tryz.func105 rfl rfl (args := [x0, x1]) rfl (by kernel_rfl) h
def f159 (x0 x1 : Value) (Q : PQ) (w : World) : Prop :=
 knew (Value.cells x0) 80 w fun v1 w2 =>
 kfld 0 v1 fun v3 =>
 kld v3 w2 fun v4 =>
 kld x1 w2 fun v5 =>
 kstr .eql v4 v5 fun v6 =>
 Q v6 w2
theorem f159_ok {x0 x1 : Value} {Q : PQ} {w : World} (h : f159 x0 x1 Q w) : Meets Tryz.prog 159 #[x0, x1] w Q :=
 sound' (c := Tryz.f159.body.get rfl) [] Tryz.func159 rfl rfl (args := [x0, x1]) rfl (by kernel_rfl) h
def f108 (x0 x1 : Value) (Q : PQ) (w : World) : Prop :=
 knew (Value.cells x0) 25 w fun v1 w2 =>
 knew (Value.cells x1) 9 w2 fun v3 w4 =>
 kfld 1 v1 fun v5 =>
 kld v5 w4 fun v6 =>
 kcall Tryz.prog 161 #[v6, (.func (.func 162) #[] #[v3])] w4 fun v7 w8 =>
 kmm .i64 true v7 (.int .i64 0) fun v9 =>
 kint .i64 .geq v7 (.int .i64 0) fun v11 =>
 Q (.tuple #[v9, v11]) w8
theorem f108_ok {x0 x1 : Value} {Q : PQ} {w : World} (h : f108 x0 x1 Q w) : Meets Tryz.prog 108 #[x0, x1] w Q :=
 sound' (c := Tryz.f108.body.get rfl) [] Tryz.func108 rfl rfl (args := [x0, x1]) rfl (by kernel_rfl) h
def f162 (x0 x1 : Value) (Q : PQ) (w : World) : Prop :=
 knew (Value.cells x0) 82 w fun v1 w2 =>
 kfld 0 v1 fun v3 =>
 kld v3 w2 fun v4 =>
 kld x1 w2 fun v5 =>
 kstr .eql v4 v5 fun v6 =>
 Q v6 w2
theorem f162_ok {x0 x1 : Value} {Q : PQ} {w : World} (h : f162 x0 x1 Q w) : Meets Tryz.prog 162 #[x0, x1] w Q :=
 sound' (c := Tryz.f162.body.get rfl) [] Tryz.func162 rfl rfl (args := [x0, x1]) rfl (by kernel_rfl) h
def f160_3 (x0 x6 x7 x8 : Value) (J2 : Value → World → Prop) (Q : PQ) (w : World) : Prop :=
 kint .i64 .add x8 (.int .i64 1) fun v11 =>
 J2 v11 w
def f160_2 (x0 x6 x7 x8 x17 : Value) (J2 : Value → World → Prop) (Q : PQ) (w : World) : Prop :=
 kB x17 fun b12 => kIf b12
 (Q (.bool false) w)
 (f160_3 x0 x6 x7 x8 J2 Q w)
def f160_1 (x0 x6 x7 x8 : Value) (J2 : Value → World → Prop) (Q : PQ) (w : World) : Prop :=
 kix (some (.slice 5)) (some 1) x6 x8 fun v6 =>
 kld v6 w fun v7 =>
 kint .u8 .lss v7 (.int .u8 97) fun v8 =>
 kB v8 fun b9 => kIf (!b9)
 (kint .u8 .gtr v7 (.int .u8 122) fun v10 =>
 f160_2 x0 x6 x7 x8 v10 J2 Q w)
 (f160_2 x0 x6 x7 x8 (.bool true) J2 Q w)
def f160_4 (x0 : Value) (Q : PQ) (w : World) : Prop :=
 klenStr x0 fun v13 =>
 kint .i64 .geq v13 (.int .i64 1) fun v15 =>
 kB v15 fun b16 => kIf b16
 (klenStr x0 fun v17 =>
 kint .i64 .leq v17 (.int .i64 8) fun v19 =>
 Q v19 w)
 (Q (.bool false) w)
def f160_0 (x8 x0 x6 x7 : Value) (J2 : Value → World → Prop) (Q : PQ) (w : World) : Prop :=
 kint .i64 .lss x8 x7 fun v5 =>
 kB v5 fun b20 => kIf b20
 (f160_1 x0 x6 x7 x8 J2 Q w)
 (f160_4 x0 Q w)
def f160 (x0 : Value) (Q : PQ) (w : World) : Prop :=
 ksem Tryz.prog (convert 9 287 x0) w fun v1 w2 =>
 klen v1 fun v3 =>
 kL fun (I : Value → World → Prop) (μ : Value → World → Nat) => I (.int .i64 0) w2 ∧ ∀ (x8 : Value) (w1 : World), I x8 w1 →
 f160_0 x8 x0 v1 v3 (fun y8 w2 => I y8 w2 ∧ μ y8 w2 < μ x8 w1) Q w1
theorem f160_ok {x0 : Value} {Q : PQ} {w : World} (h : f160 x0 Q w) : Meets Tryz.prog 160 #[x0] w Q :=
 sound' (c := Tryz.f160.body.get rfl) [(2, [8])] Tryz.func160 rfl rfl (args := [x0]) rfl (by kernel_rfl) h
def f107_2 (x8 x9 x10 : Value) (J2 : Value → World → Prop) (Q : PQ) (w : World) : Prop :=
 kint .i64 .add x10 (.int .i64 1) fun v13 =>
 J2 v13 w
def f107_1 (x8 x9 x10 : Value) (J2 : Value → World → Prop) (Q : PQ) (w : World) : Prop :=
 kix (some (.slice 3)) (some 1) x8 x10 fun v10 =>
 kld v10 w fun v11 =>
 kint .i64 .neq v11 (.int .i64 0) fun v12 =>
 kB v12 fun b14 => kIf b14
 (Q (.bool false) w)
 (f107_2 x8 x9 x10 J2 Q w)
def f107_3 (Q : PQ) (w : World) : Prop :=
 Q (.bool true) w
def f107_0 (x10 x8 x9 : Value) (J2 : Value → World → Prop) (Q : PQ) (w : World) : Prop :=
 kint .i64 .lss x10 x9 fun v9 =>
 kB v9 fun b15 => kIf b15
 (f107_1 x8 x9 x10 J2 Q w)
 (f107_3 Q w)
def f107 (x0 : Value) (Q : PQ) (w : World) : Prop :=
 knew (Value.cells x0) 80 w fun v1 w2 =>
 kfld 3 v1 fun v3 =>
 kfld 1 v1 fun v4 =>
 kld v4 w2 fun v5 =>
 ksl (some (.array 4 3)) (some 1) v3 (some v5) none fun v6 =>
 klen v6 fun v7 =>
 kL fun (I : Value → World → Prop) (μ : Value → World → Nat) => I (.int .i64 0) w2 ∧ ∀ (x10 : Value) (w1 : World), I x10 w1 →
 f107_0 x10 v6 v7 (fun y10 w2 => I y10 w2 ∧ μ y10 w2 < μ x10 w1) Q w1
theorem f107_ok {x0 : Value} {Q : PQ} {w : World} (h : f107 x0 Q w) : Meets Tryz.prog 107 #[x0] w Q :=
 sound' (c := Tryz.f107.body.get rfl) [(2, [10])] Tryz.func107 rfl rfl (args := [x0]) rfl (by kernel_rfl) h
def f158_2 (x0 x1 x7 x8 : Value) (J2 : Value → World → Prop) (Q : PQ) (w : World) : Prop :=
 kint .i64 .add x8 (.int .i64 1) fun v8 =>
 J2 v8 w
def f158_1 (x0 x1 x7 x8 : Value) (J2 : Value → World → Prop) (Q : PQ) (w : World) : Prop :=
 kix (some (.slice 80)) (some 7) x0 x8 fun v4 =>
 kldN 7 v4 w fun v5 =>
 kcallV Tryz.prog x1 [v5] w fun v6 w7 =>
 kB v6 fun b9 => kIf b9
 (Q x8 w7)
 (f158_2 x0 x1 x7 x8 J2 Q w7)
def f158_3 (Q : PQ) (w : World) : Prop :=
 Q (.int .i64 (-1)) w
def f158_0 (x8 x0 x1 x7 : Value) (J2 : Value → World → Prop) (Q : PQ) (w : World) : Prop :=
 kint .i64 .lss x8 x7 fun v3 =>
 kB v3 fun b10 => kIf b10
 (f158_1 x0 x1 x7 x8 J2 Q w)
 (f158_3 Q w)
def f158 (x0 x1 : Value) (Q : PQ) (w : World) : Prop :=
 klen x0 fun v1 =>
 kL fun (I : Value → World → Prop) (μ : Value → World → Nat) => I (.int .i64 0) w ∧ ∀ (x8 : Value) (w1 : World), I x8 w1 →
 f158_0 x8 x0 x1 v1 (fun y8 w2 => I y8 w2 ∧ μ y8 w2 < μ x8 w1) Q w1
theorem f158_ok {x0 x1 : Value} {Q : PQ} {w : World} (h : f158 x0 x1 Q w) : Meets Tryz.prog 158 #[x0, x1] w Q :=
 sound' (c := Tryz.f158.body.get rfl) [(2, [8])] Tryz.func158 rfl rfl (args := [x0, x1]) rfl (by kernel_rfl) h
def f161_2 (x0 x1 x7 x8 : Value) (J2 : Value → World → Prop) (Q : PQ) (w : World) : Prop :=
 kint .i64 .add x8 (.int .i64 1) fun v8 =>
 J2 v8 w
def f161_1 (x0 x1 x7 x8 : Value) (J2 : Value → World → Prop) (Q : PQ) (w : World) : Prop :=
 kix (some (.slice 82)) (some 2) x0 x8 fun v4 =>
 kldN 2 v4 w fun v5 =>
 kcallV Tryz.prog x1 [v5] w fun v6 w7 =>
 kB v6 fun b9 => kIf b9
 (Q x8 w7)
 (f161_2 x0 x1 x7 x8 J2 Q w7)
def f161_3 (Q : PQ) (w : World) : Prop :=
 Q (.int .i64 (-1)) w
def f161_0 (x8 x0 x1 x7 : Value) (J2 : Value → World → Prop) (Q : PQ) (w : World) : Prop :=
 kint .i64 .lss x8 x7 fun v3 =>
 kB v3 fun b10 => kIf b10
 (f161_1 x0 x1 x7 x8 J2 Q w)
 (f161_3 Q w)
def f161 (x0 x1 : Value) (Q : PQ) (w : World) : Prop :=
 klen x0 fun v1 =>
 kL fun (I : Value → World → Prop) (μ : Value → World → Nat) => I (.int .i64 0) w ∧ ∀ (x8 : Value) (w1 : World), I x8 w1 →
 f161_0 x8 x0 x1 v1 (fun y8 w2 => I y8 w2 ∧ μ y8 w2 < μ x8 w1) Q w1
theorem f161_ok {x0 x1 : Value} {Q : PQ} {w : World} (h : f161 x0 x1 Q w) : Meets Tryz.prog 161 #[x0, x1] w Q :=
 sound' (c := Tryz.f161.body.get rfl) [(2, [8])] Tryz.func161 rfl rfl (args := [x0, x1]) rfl (by kernel_rfl) h
def f60 (x0 : Value) (Q : PQ) (w : World) : Prop :=
 kcall Tryz.prog 111 #[x0] w fun v1 w2 =>
 Q v1 w2
theorem f60_ok {x0 : Value} {Q : PQ} {w : World} (h : f60 x0 Q w) : Meets Tryz.prog 60 #[x0] w Q :=
 sound' (c := Tryz.f60.body.get rfl) [] Tryz.func60 rfl rfl (args := [x0]) rfl (by kernel_rfl) h
def f111 (x0 : Value) (Q : PQ) (w : World) : Prop :=
 kcall Tryz.prog 166 #[x0, .int .i64 10] w fun v1 w2 =>
 Q v1 w2
theorem f111_ok {x0 : Value} {Q : PQ} {w : World} (h : f111 x0 Q w) : Meets Tryz.prog 111 #[x0] w Q :=
 sound' (c := Tryz.f111.body.get rfl) [] Tryz.func111 rfl rfl (args := [x0]) rfl (by kernel_rfl) h
def f166_3 (x5 x7 : Value) (Q : PQ) (w : World) : Prop :=
 kint .i64 .add (.int .i64 1) x7 fun v25 =>
 ksl (some (.array 24 5)) (some 1) x5 (some (.int .i64 1)) (some v25) fun v26 =>
 ksem Tryz.prog (convert 287 9 v26) w fun v27 w28 =>
 Q v27 w28
def f166_2 (x0 x5 x6 : Value) (Q : PQ) (w : World) : Prop :=
 kcall Tryz.prog 206 #[x6] w fun v12 w13 =>
 kint .i64 .add (.int .i64 1) v12 fun v14 =>
 ksl (some (.array 24 5)) (some 1) x5 (some (.int .i64 1)) (some v14) fun v15 =>
 kcall Tryz.prog 207 #[v15, x6] w13 fun v16 w17 =>
 kint .i64 .lss x0 (.int .i64 0) fun v18 =>
 kB v18 fun b29 => kIf b29
 (kix (some (.array 24 5)) (some 1) x5 (.int .i64 0) fun v19 =>
 kst 1 v19 (.int .u8 45) w17 fun w20 =>
 kint .i64 .add (.int .i64 1) v12 fun v21 =>
 ksl (some (.array 24 5)) (some 1) x5 none (some v21) fun v22 =>
 ksem Tryz.prog (convert 287 9 v22) w20 fun v23 w24 =>
 Q v23 w24)
 (f166_3 x5 v12 Q w17)
def f166_1 (x0 : Value) (Q : PQ) (w : World) : Prop :=
 knew #[.int .u8 0, .int .u8 0, .int .u8 0, .int .u8 0, .int .u8 0, .int .u8 0, .int .u8 0, .int .u8 0, .int .u8 0, .int .u8 0, .int .u8 0, .int .u8 0, .int .u8 0, .int .u8 0, .int .u8 0, .int .u8 0, .int .u8 0, .int .u8 0, .int .u8 0, .int .u8 0, .int .u8 0, .int .u8 0, .int .u8 0, .int .u8 0] 368 w fun v7 w8 =>
 kcnv .u64 x0 fun v9 =>
 kint .i64 .lss x0 (.int .i64 0) fun v10 =>
 kB v10 fun b30 => kIf b30
 (kun .neg (some (.int .u64)) v9 fun v11 =>
 f166_2 x0 v7 v11 Q w8)
 (f166_2 x0 v7 v9 Q w8)
def f166_0 (x0 x17 : Value) (Q : PQ) (w : World) : Prop :=
 kB x17 fun b31 => kIf b31
 (kcall Tryz.prog 205 #[x0] w fun v5 w6 =>
 Q v5 w6)
 (f166_1 x0 Q w)
def f166_4 (x0 x1 : Value) (Q : PQ) (w : World) : Prop :=
 kcnv .u64 x0 fun v32 =>
 kint .i64 .lss x0 (.int .i64 0) fun v33 =>
 kcall Tryz.prog 208 #[.slice none 0 0, v32, x1, v33, .bool false] w fun v34 w35 =>
 kext v34 0 fun v36 =>
 kext v34 1 fun v37 =>
 Q v37 w35
def f166 (x0 x1 : Value) (Q : PQ) (w : World) : Prop :=
 kint .i64 .eql x1 (.int .i64 10) fun v1 =>
 kB v1 fun b38 => kIf b38
 (kint .i64 .leq (.int .i64 0) x0 fun v2 =>
 kB v2 fun b3 => kIf b3
 (kint .i64 .lss x0 (.int .i64 100) fun v4 =>
 f166_0 x0 v4 Q w)
 (f166_0 x0 (.bool false) Q w))
 (f166_4 x0 x1 Q w)
theorem f166_ok {x0 x1 : Value} {Q : PQ} {w : World} (h : f166 x0 x1 Q w) : Meets Tryz.prog 166 #[x0, x1] w Q :=
 sound' (c := Tryz.f166.body.get rfl) [] Tryz.func166 rfl rfl (args := [x0, x1]) rfl (by kernel_rfl) h
def f205_0 (x0 : Value) (Q : PQ) (w : World) : Prop :=
 kint .i64 .mul x0 (.int .i64 2) fun v4 =>
 kint .i64 .mul x0 (.int .i64 2) fun v5 =>
 kint .i64 .add v5 (.int .i64 2) fun v6 =>
 ksl (some .string) none (.string ⟨#[48, 48, 48, 49, 48, 50, 48, 51, 48, 52, 48, 53, 48, 54, 48, 55, 48, 56, 48, 57, 49, 48, 49, 49, 49, 50, 49, 51, 49, 52, 49, 53, 49, 54, 49, 55, 49, 56, 49, 57, 50, 48, 50, 49, 50, 50, 50, 51, 50, 52, 50, 53, 50, 54, 50, 55, 50, 56, 50, 57, 51, 48, 51, 49, 51, 50, 51, 51, 51, 52, 51, 53, 51, 54, 51, 55, 51, 56, 51, 57, 52, 48, 52, 49, 52, 50, 52, 51, 52, 52, 52, 53, 52, 54, 52, 55, 52, 56, 52, 57, 53, 48, 53, 49, 53, 50, 53, 51, 53, 52, 53, 53, 53, 54, 53, 55, 53, 56, 53, 57, 54, 48, 54, 49, 54, 50, 54, 51, 54, 52, 54, 53, 54, 54, 54, 55, 54, 56, 54, 57, 55, 48, 55, 49, 55, 50, 55, 51, 55, 52, 55, 53, 55, 54, 55, 55, 55, 56, 55, 57, 56, 48, 56, 49, 56, 50, 56, 51, 56, 52, 56, 53, 56, 54, 56, 55, 56, 56, 56, 57, 57, 48, 57, 49, 57, 50, 57, 51, 57, 52, 57, 53, 57, 54, 57, 55, 57, 56, 57, 57]⟩) (some v4) (some v6) fun v7 =>
 Q v7 w
def f205 (x0 : Value) (Q : PQ) (w : World) : Prop :=
 kint .i64 .lss x0 (.int .i64 10) fun v1 =>
 kB v1 fun b8 => kIf b8
 (kint .i64 .add x0 (.int .i64 1) fun v2 =>
 ksl (some .string) none (.string ⟨#[48, 49, 50, 51, 52, 53, 54, 55, 56, 57, 97, 98, 99, 100, 101, 102, 103, 104, 105, 106, 107, 108, 109, 110, 111, 112, 113, 114, 115, 116, 117, 118, 119, 120, 121, 122]⟩) (some x0) (some v2) fun v3 =>
 Q v3 w)
 (f205_0 x0 Q w)
theorem f205_ok {x0 : Value} {Q : PQ} {w : World} (h : f205 x0 Q w) : Meets Tryz.prog 205 #[x0] w Q :=
 sound' (c := Tryz.f205.body.get rfl) [] Tryz.func205 rfl rfl (args := [x0]) rfl (by kernel_rfl) h
end
section
attribute [local irreducible] kO kB kStr kInt kN kG kIf kfld kld kldN kst knew kmap kbld kbldS kext kcnv klenStr klen kcap kprt kprtN kbool kint kstr keq kun ksl kix kiv kta kmk kmm ksem ksemU kextf kcallV kcallM kcall kL
def byV (x : UInt8) : Value := .int .u8 (x.toNat : Int)
theorem slBy : Tryz.prog.underlying 287 = some (.slice 5) := by kernel_rfl
theorem uBy : Tryz.prog.underlying 5 = some (.int .u8) := by kernel_rfl
theorem uSt : Tryz.prog.underlying 9 = some .string := by kernel_rfl
theorem ksem_tobytes {w : World} {s : ByteArray} {K : Value → World → Prop} (h : ∀ c w', Same w w' → SlIs w' (some ⟨w.heap.size, 0, none⟩) s.size 1 (s.data.toList.map byV) → K (.slice (some ⟨w.heap.size, 0, none⟩) s.size c) w') :
  ksem Tryz.prog (convert 9 287 (.string s)) w K := by
 rw [ksem_ok (Go.Lib.run_convert_string_bytes w _ _ _ s uSt slBy uBy)]
 refine h _ _ ⟨rfl, rfl, rfl, by rw [Go.Lib.bytesWorld_size]; omega, fun k hk _ => Go.Lib.bytesWorld_at_old w _ s k hk⟩ ⟨by rw [List.length_map, Nat.mul_one]; rfl, .inr ⟨_, 0, _, _, _, rfl, Go.Lib.bytesWorld_at_new w _ s, ?_⟩⟩
 have e : (Go.Lib.bytesCells w 5 s).toList = s.data.toList.map byV ++ List.replicate (grownCap w s.size 0 5 - s.size) (.int .u8 0) := by
  unfold Go.Lib.bytesCells
  rw [Array.toList_append, Array.toList_map, Array.toList_replicate]; rfl
 rw [e, List.drop_zero, List.take_append_of_le_length (by rw [List.length_map]; exact Nat.le_of_eq (Nat.mul_one _)), List.take_of_length_le (by rw [List.length_map]; exact Nat.le_of_eq (Nat.mul_one _).symm)]
def NameOk (s : ByteArray) : Prop := 1 ≤ s.size ∧ s.size ≤ 8 ∧ ∀ x ∈ s.data.toList, 97 ≤ x.toNat ∧ x.toNat ≤ 122
theorem isName_spec {s : ByteArray} (h : NameOk s) (w : World) : Meets Tryz.prog 160 #[.string s] w fun v w' => v = .bool true ∧ Same w w' := by
 obtain ⟨h1, h8, hall⟩ := h
 refine f160_ok ?_
 unfold f160
 refine ksem_tobytes fun c w2 h2 hs2 => ?_
 have hsz : s.data.toList.length = s.size := rfl
 refine klen_at ?_
 refine kL1_of s.size (fun j x wr => x = .int .i64 j ∧ wr = w2) ⟨lI1_0 ⟨rfl, rfl⟩, fun x wr hx => ?_⟩
 obtain ⟨j, hj, ⟨rfl, rfl⟩, hJ⟩ := lI1_step hx
 unfold f160_0
 refine lss_at ?_
 refine kB_at ?_
 refine kIf_dec (fun hlt => ?_) (fun hge => ?_)
 ·have hlt : j < s.size := by omega
  have hjl : j < s.data.toList.length := by omega
  have hb := hall _ (List.getElem_mem hjl)
  unfold f160_1
  have := hs2
  rw [← hsz] at this
  refine kixld_of (F := byV) (l := s.data.toList) this hjl rfl ?_ |> fun h => by rw [hsz] at h; exact h
  generalize s.data.toList[j] = x at *
  rw [byV]
  refine lss_at ?_
  rw [decF (by omega)]
  refine kB_at ?_
  refine kIf_T rfl ?_
  refine gtr_at ?_
  rw [decF (by omega)]
  unfold f160_2
  refine kB_at ?_
  refine kIf_F rfl ?_
  refine add_at (by omega) (by omega) ?_
  rw [cast_succ]
  exact hJ _ _ hlt ⟨rfl, rfl⟩
 ·unfold f160_4
  refine klenStr_at ?_
  refine geq_at ?_
  rw [decT (by omega)]
  refine kB_at ?_
  refine kIf_T rfl ?_
  refine klenStr_at ?_
  refine leq_at ?_
  rw [decT (by omega)]
  exact ⟨rfl, h2⟩
theorem find1_spec (q : Comp) {w : World} {bc : Nat} {s : ByteArray} (hb : blk w bc = some (.cells #[.string s] 9)) : Meets Tryz.prog 159 #[.agg q.cells.toArray, .pointer (some ⟨bc, 0, none⟩)] w fun v w' => v = .bool (decide (q.name = s)) ∧ Same w w' := by
 refine f159_ok ?_
 refine knew_of fun w2 hm2 hs2 hb2 => ?_
 have hb2 : blk w2 w.heap.size = some (.cells q.cells.toArray 80) := hb2
 have hbc := hm2.get hb (fun h => h)
 refine kfld_of ?_
 refine kld_of (v := .string q.name) hb2 (by simp [Comp.cells]) ?_
 refine kld_of (v := .string s) hbc rfl ?_
 rw [kstr_eql]
 exact ⟨rfl, hm2⟩
theorem indexC_spec {w : World} {a : Option Addr} {L : List Comp} {cp : Nat} (hs : SlIs w a L.length 7 (L.flatMap Comp.cells)) {bc : Nat} {s : ByteArray} (hb : blk w bc = some (.cells #[.string s] 9)) {k : Nat} (hk : k < L.length) (hkc : (L[k]).name = s) (hbef : ∀ j (hj : j < L.length), j < k → (L[j]).name ≠ s) (hlen : L.length ≤ 1000000) :
  Meets Tryz.prog 158 #[.slice a L.length cp, .func (.func 159) #[] #[.pointer (some ⟨bc, 0, none⟩)]] w fun v w' => v = .int .i64 k ∧ Same w w' := by
 refine f158_ok ?_
 unfold f158
 refine klen_at ?_
 refine kL1_of L.length (fun j x wr => x = .int .i64 j ∧ j ≤ k ∧ Same w wr) ⟨lI1_0 ⟨rfl, by omega, Mod.refl _ _⟩, fun x wr hx => ?_⟩
 obtain ⟨j, hj, ⟨rfl, hjk, hm⟩, hJ⟩ := lI1_step hx
 unfold f158_0
 refine lss_at ?_
 refine kB_at ?_
 refine kIf_dec (fun hlt => ?_) (fun hge => ?_)
 ·have hlt : j < L.length := by omega
  unfold f158_1
  refine kixldN_of (F := Comp.cells) (sz := 7) (fun _ => rfl) (by omega) (hs.same hm) hlt rfl ?_
  refine kcallC_of (find1_spec L[j] (hm.get hb (fun h => h))) ?_
  rintro v w7 ⟨rfl, h7⟩
  by_cases hjk' : j = k
  ·subst hjk'
   rw [hkc]
   rw [decT rfl]
   refine kB_at ?_
   refine kIf_T rfl ?_
   exact ⟨rfl, hm.trans h7⟩
  ·rw [decF (hbef j hlt (by omega))]
   refine kB_at ?_
   refine kIf_F rfl ?_
   unfold f158_2
   refine add_at (by omega) (by omega) ?_
   rw [cast_succ]
   exact hJ _ _ hlt ⟨rfl, by omega, hm.trans h7⟩
 ·omega
structure GoodSc (L : List Comp) : Prop where
 len : L.length ≤ 16
 names : ∀ q ∈ L, NameOk q.name
 apart : ∀ i j (hi : i < L.length) (hj : j < L.length), L[i].name = L[j].name → i = j
 wide : ∀ q ∈ L, ∃ d : Nat, q.width = (d : Int) ∧ 1 ≤ d ∧ d ≤ 4
 clean : ∀ q ∈ L, (q.width ≤ 1 → q.d1 = 0) ∧ (q.width ≤ 2 → q.d2 = 0) ∧ (q.width ≤ 3 → q.d3 = 0)
def scV (a : Option Addr) (n c : Nat) (rv : Value) : Value := .agg #[.slice a n c, rv]
theorem find_spec {w : World} {a : Option Addr} {L : List Comp} {cp : Nat} {ra : Option Addr} {rn rc : Nat} (hs : SlIs w a L.length 7 (L.flatMap Comp.cells)) (hG : GoodSc L) {k : Nat} (hk : k < L.length) :
  Meets Tryz.prog 105 #[scV a L.length cp (.slice ra rn rc), .string (L[k]).name] w fun v w' => v = .tuple #[.int .i64 k, .bool true] ∧ Same w w' := by
 have hl := hG.len
 rw [scV]
 refine f105_ok ?_
 unfold f105
 refine knew_of fun w2 hm2 hs2 hb2 => ?_
 have hb2 : blk w2 w.heap.size = some (.cells #[.slice a L.length cp, .slice ra rn rc] 25) := hb2
 refine knew_of fun w4 hm4 hs4 hb4 => ?_
 have hb4 : blk w4 w2.heap.size = some (.cells #[.string (L[k]).name] 9) := hb4
 have hb24 := hm4.get hb2 (fun h => h)
 refine kfld_of ?_
 refine kld_at hb24 rfl ?_
 refine kcall_of (indexC_spec (hs.same (hm2.trans hm4)) hb4 hk rfl (fun j hj hjk e => by have := hG.apart j k hj hk e; omega) (by omega)) ?_
 rintro v w8 ⟨rfl, h8⟩
 rw [kmm_max]
 refine geq_at ?_
 rw [decT (by omega), show max (k : Int) 0 = (k : Int) by omega]
 exact ⟨rfl, (hm2.trans hm4).trans h8⟩
end
section
attribute [local irreducible] kO kB kStr kInt kN kG kIf kfld kld kldN kst knew kmap kbld kbldS kext kcnv klenStr klen kcap kprt kprtN kbool kint kstr keq kun ksl kix kiv kta kmk kmm ksem ksemU kextf kcallV kcallM kcall kL
theorem smallS_spec {n : Nat} (hn : n < 100) (w : World) : Meets Tryz.prog 205 #[.int .i64 n] w fun v w' => (∃ s, v = .string s) ∧ w' = w := by
 refine f205_ok ?_
 unfold f205
 rw [kint_lss, kB_bool]
 refine kIf_dec (fun h => ?_) (fun h => ?_)
 ·rw [kint_add, wrap_i64 (by omega) (by omega), ksl_string rfl rfl]
  have hsz : (⟨#[48, 49, 50, 51, 52, 53, 54, 55, 56, 57, 97, 98, 99, 100, 101, 102, 103, 104, 105, 106, 107, 108, 109, 110, 111, 112, 113, 114, 115, 116, 117, 118, 119, 120, 121, 122]⟩ : ByteArray).size = 36 := rfl
  refine kG_of (by simp only [loV_int, hiV_int, hsz]; omega) ?_
  exact ⟨⟨_, rfl⟩, rfl⟩
 ·unfold f205_0
  rw [kint_mul, wrap_i64 (by omega) (by omega), kint_mul, wrap_i64 (by omega) (by omega), kint_add, wrap_i64 (by omega) (by omega), ksl_string rfl rfl]
  refine kG_of ?_ ?_
  ·simp only [loV_int, hiV_int]
   refine ⟨by omega, by omega, ?_⟩
   show (n : Int) * 2 + 2 ≤ ((200 : Nat) : Int)
   omega
  exact ⟨⟨_, rfl⟩, rfl⟩
theorem itoaS_spec {n : Nat} (hn : n < 100) (w : World) : Meets Tryz.prog 60 #[.int .i64 n] w fun v w' => (∃ s, v = .string s) ∧ w' = w := by
 have h2 : Meets Tryz.prog 166 #[.int .i64 n, .int .i64 10] w fun v w' => (∃ s, v = .string s) ∧ w' = w := by
  refine f166_ok ?_
  unfold f166
  rw [kint_eql, kB_bool]
  refine kIf_dec (fun _ => ?_) (fun h => absurd rfl h)
  rw [kint_leq, kB_bool]
  refine kIf_dec (fun _ => ?_) (fun h => absurd (by omega) h)
  rw [kint_lss]
  unfold f166_0
  rw [kB_bool]
  refine kIf_dec (fun _ => ?_) (fun h => absurd (by omega) h)
  refine kcall_of (smallS_spec hn w) ?_
  rintro v w' h
  exact h
 have h3 : Meets Tryz.prog 111 #[.int .i64 n] w fun v w' => (∃ s, v = .string s) ∧ w' = w := by
  refine f111_ok ?_
  unfold f111
  refine kcall_of h2 ?_
  rintro v w' h
  exact h
 refine f60_ok ?_
 unfold f60
 refine kcall_of h3 ?_
 rintro v w' h
 exact h
theorem named_spec {s : ByteArray} (h : NameOk s) (f : Value) (kd : Value) {n : Nat} (hn : n < 100) (w : World) : Meets Tryz.prog 106 #[f, .string s, .bool false, kd, .int .i64 n] w fun v w' => v = .tuple #[] ∧ Same w w' := by
 refine f106_ok ?_
 unfold f106
 refine kcall_of (itoaS_spec hn w) ?_
 rintro v w2 ⟨⟨s2, rfl⟩, rfl⟩
 refine kcall_of (isName_spec h _) ?_
 rintro v w4 ⟨rfl, h4⟩
 refine not_at ?_
 refine kB_at ?_
 refine kIf_F rfl ?_
 refine kB_at ?_
 refine kIf_F rfl ?_
 exact ⟨rfl, h4⟩
theorem isClean_spec {nm : ByteArray} {rb : Bool} {d : Nat} (h1 : 1 ≤ d) (h4 : d ≤ 4) {d0 d1 d2 d3 : Int} (c1 : (d : Int) ≤ 1 → d1 = 0) (c2 : (d : Int) ≤ 2 → d2 = 0) (c3 : (d : Int) ≤ 3 → d3 = 0) (w : World) : Meets Tryz.prog 107 #[.agg #[.string nm, .int .i64 d, .bool rb, .int .i64 d0, .int .i64 d1, .int .i64 d2, .int .i64 d3]] w fun v w' => v = .bool true ∧ Same w w' := by
 refine f107_ok ?_
 unfold f107
 refine knew_of fun w2 hm2 hs2 hb2 => ?_
 have hb2 : blk w2 w.heap.size = some (.cells #[.string nm, .int .i64 d, .bool rb, .int .i64 d0, .int .i64 d1, .int .i64 d2, .int .i64 d3] 80) := hb2
 refine kfld_of ?_
 refine kfld_of ?_
 refine kld_at hb2 rfl ?_
 refine ksl_arr_lo (n := d) (by omega) ?_
 have hsl : SlIs w2 (some ⟨w.heap.size, if 4 = d then 0 + 3 else 0 + 3 + d * 1, none⟩) (List.replicate (4 - d) (0 : Int)).length 1 ((List.replicate (4 - d) (0 : Int)).map (Value.int .i64)) := by
  refine ⟨by simp, ?_⟩
  by_cases h : 4 = d
  ·left; simp; omega
  ·refine .inr ⟨_, _, _, _, _, rfl, hb2, ?_⟩
   rw [if_neg h]
   have : d = 1 ∨ d = 2 ∨ d = 3 := by omega
   rcases this with rfl | rfl | rfl
   ·obtain rfl := c1 (by omega)
    obtain rfl := c2 (by omega)
    obtain rfl := c3 (by omega)
    rfl
   ·obtain rfl := c2 (by omega)
    obtain rfl := c3 (by omega)
    rfl
   ·obtain rfl := c3 (by omega)
    rfl
 have hrl : (List.replicate (4 - d) (0 : Int)).length = 4 - d := by simp
 refine klen_at ?_
 refine kL1_of (4 - d) (fun j x wr => x = .int .i64 j ∧ wr = w2) ⟨lI1_0 ⟨rfl, rfl⟩, fun x wr hx => ?_⟩
 obtain ⟨j, hj, ⟨rfl, rfl⟩, hJ⟩ := lI1_step hx
 unfold f107_0
 refine lss_at ?_
 refine kB_at ?_
 refine kIf_dec (fun hlt => ?_) (fun hge => ?_)
 ·have hlt : j < 4 - d := by omega
  unfold f107_1
  refine kixld_of (F := Value.int .i64) (l := List.replicate (4 - d) (0 : Int)) hsl (by omega) rfl ?_ |> fun h => by rw [hrl] at h; exact h
  rw [List.getElem_replicate]
  refine neq_at ?_
  rw [decF (by omega)]
  refine kB_at ?_
  refine kIf_F rfl ?_
  unfold f107_2
  refine add_at (by omega) (by omega) ?_
  rw [cast_succ]
  exact hJ _ _ hlt ⟨rfl, rfl⟩
 ·exact ⟨rfl, hm2⟩
theorem component_spec {w : World} {a : Option Addr} {L : List Comp} {cp : Nat} {ra : Option Addr} {rn rc : Nat} (hs : SlIs w a L.length 7 (L.flatMap Comp.cells)) (hG : GoodSc L) {k : Nat} (hk : k < L.length) (f : Value) :
  Meets Tryz.prog 55 #[f, scV a L.length cp (.slice ra rn rc), .int .i64 k] w fun v w' => v = .tuple #[] ∧ Same w w' := by
 have hl := hG.len
 have hkm := List.getElem_mem hk
 obtain ⟨d, hd, hd1, hd4⟩ := hG.wide _ hkm
 rw [scV]
 refine f55_ok ?_
 unfold f55
 refine knew_of fun w2 hm2 hs2 hb2 => ?_
 have hb2 : blk w2 w.heap.size = some (.cells #[.slice a L.length cp, .slice ra rn rc] 25) := hb2
 refine kfld_of ?_
 refine kld_at hb2 rfl ?_
 refine kixldN_of (F := Comp.cells) (sz := 7) (fun _ => rfl) (by omega) (hs.same hm2) hk rfl ?_
 refine knew_of fun w8 h8 hs8 hb8 => ?_
 refine kst_of (vs := (L[k]).cells) hb8 rfl rfl rfl (by simp) (by simp [Comp.cells]) fun w9 h9 hs9 hb9 => ?_
 have hb9 : blk w9 w2.heap.size = some (.cells (L[k]).cells.toArray 80) := hb9
 have hb9' : blk w9 w2.heap.size = some (.cells #[.string (L[k]).name, .int .i64 d, .bool (L[k]).rb, .int .i64 (L[k]).d0, .int .i64 (L[k]).d1, .int .i64 (L[k]).d2, .int .i64 (L[k]).d3] 80) := by
  rw [hb9]; simp [Comp.cells, hd]
 obtain ⟨z1, z2, z3⟩ := hG.clean _ hkm
 rw [hd] at z1 z2 z3
 have hb29 := h9.get (h8.get hb2 (fun h => h)) (by omega)
 have m9 : Same w w9 := (hm2.trans h8).trans' (h9.mono fun k _ e => .inr (by omega))
 refine kldN_at hb29 rfl (by omega) ?_
 refine kfld_of ?_
 refine kld_at hb9' rfl ?_
 have hfs := find_spec (ra := ra) (rn := rn) (rc := rc) (cp := cp) (hs.same m9) hG hk
 rw [scV] at hfs
 refine kcall_of hfs ?_
 rintro v w14 ⟨rfl, h14⟩
 have hb14 := h14.get hb9' (fun h => h)
 refine kext_at rfl ?_
 refine kext_at rfl ?_
 refine kfld_of ?_
 refine kld_at hb14 rfl ?_
 refine kB_at ?_
 refine kIf_T rfl ?_
 refine lss_at ?_
 rw [decF (show ¬ (k : Int) < (k : Int) by omega)]
 refine kcall_of (named_spec (hG.names _ hkm) f _ (by omega) w14) ?_
 rintro v w22 ⟨rfl, h22⟩
 have hb22 := h22.get hb14 (fun h => h)
 unfold f55_0
 refine kcall_of (itoaS_spec (by omega) w22) ?_
 rintro v w24 ⟨⟨s2, rfl⟩, rfl⟩
 refine kfld_of ?_
 refine kld_at hb22 rfl ?_
 refine lss_at ?_
 refine kB_at ?_
 refine kIf_T (notT (decF (by omega))) ?_
 refine kfld_of ?_
 refine kld_at hb22 rfl ?_
 refine gtr_at ?_
 refine kB_at ?_
 refine kIf_F (decF (by omega)) ?_
 refine kldN_at hb22 rfl (by omega) ?_
 refine kcall_of (isClean_spec hd1 hd4 z1 z2 z3 _) ?_
 rintro v w39 ⟨rfl, h39⟩
 refine not_at ?_
 refine kB_at ?_
 refine kIf_F rfl ?_
 exact ⟨rfl, ((m9.trans h14).trans h22).trans h39⟩
end
section
attribute [local irreducible] kO kB kStr kInt kN kG kIf kfld kld kldN kst knew kmap kbld kbldS kext kcnv klenStr klen kcap kprt kprtN kbool kint kstr keq kun ksl kix kiv kta kmk kmm ksem ksemU kextf kcallV kcallM kcall kL
structure ResM where
 name : ByteArray
 value : Int
def ResM.cells (r : ResM) : List Value := [.string r.name, .int .i64 r.value]
structure GoodR (L : List Comp) (R : List ResM) : Prop where
 len : R.length ≤ 8
 names : ∀ r ∈ R, NameOk r.name
 apart : ∀ i j (hi : i < R.length) (hj : j < R.length), R[i].name = R[j].name → i = j
 other : ∀ r ∈ R, ∀ q ∈ L, q.name ≠ r.name
theorem GoodR.nil (L : List Comp) : GoodR L [] where
 len := by simp
 names r hr := by cases hr
 apart i j hi := by simp at hi
 other r hr := by cases hr
theorem indexC_none {w : World} {a : Option Addr} {L : List Comp} {cp : Nat} (hs : SlIs w a L.length 7 (L.flatMap Comp.cells)) {bc : Nat} {s : ByteArray} (hb : blk w bc = some (.cells #[.string s] 9)) (hno : ∀ q ∈ L, q.name ≠ s) (hlen : L.length ≤ 1000000) :
  Meets Tryz.prog 158 #[.slice a L.length cp, .func (.func 159) #[] #[.pointer (some ⟨bc, 0, none⟩)]] w fun v w' => v = .int .i64 (-1) ∧ Same w w' := by
 refine f158_ok ?_
 unfold f158
 refine klen_at ?_
 refine kL1_of L.length (fun j x wr => x = .int .i64 j ∧ Same w wr) ⟨lI1_0 ⟨rfl, Mod.refl _ _⟩, fun x wr hx => ?_⟩
 obtain ⟨j, hj, ⟨rfl, hm⟩, hJ⟩ := lI1_step hx
 unfold f158_0
 refine lss_at ?_
 refine kB_at ?_
 refine kIf_dec (fun hlt => ?_) (fun hge => ?_)
 ·have hlt : j < L.length := by omega
  unfold f158_1
  refine kixldN_of (F := Comp.cells) (sz := 7) (fun _ => rfl) (by omega) (hs.same hm) hlt rfl ?_
  refine kcallC_of (find1_spec L[j] (hm.get hb (fun h => h))) ?_
  rintro v w7 ⟨rfl, h7⟩
  rw [decF (hno _ (List.getElem_mem hlt))]
  refine kB_at ?_
  refine kIf_F rfl ?_
  unfold f158_2
  refine add_at (by omega) (by omega) ?_
  rw [cast_succ]
  exact hJ _ _ hlt ⟨rfl, hm.trans h7⟩
 ·unfold f158_3
  exact ⟨rfl, hm⟩
theorem find_none {w : World} {a : Option Addr} {L : List Comp} {cp : Nat} {ra : Option Addr} {rn rc : Nat} (hs : SlIs w a L.length 7 (L.flatMap Comp.cells)) (hl : L.length ≤ 1000000) {s : ByteArray} (hno : ∀ q ∈ L, q.name ≠ s) :
  Meets Tryz.prog 105 #[scV a L.length cp (.slice ra rn rc), .string s] w fun v w' => v = .tuple #[.int .i64 0, .bool false] ∧ Same w w' := by
 rw [scV]
 refine f105_ok ?_
 unfold f105
 refine knew_of fun w2 hm2 hs2 hb2 => ?_
 have hb2 : blk w2 w.heap.size = some (.cells #[.slice a L.length cp, .slice ra rn rc] 25) := hb2
 refine knew_of fun w4 hm4 hs4 hb4 => ?_
 have hb4 : blk w4 w2.heap.size = some (.cells #[.string s] 9) := hb4
 have hb24 := hm4.get hb2 (fun h => h)
 refine kfld_of ?_
 refine kld_of (v := .slice a L.length cp) hb24 rfl ?_
 refine kcall_of (indexC_none (hs.same (hm2.trans hm4)) hb4 hno hl) ?_
 rintro v w8 ⟨rfl, h8⟩
 rw [kmm_max]
 refine geq_at ?_
 rw [decF (by omega), show max (-1 : Int) 0 = 0 by omega]
 exact ⟨rfl, (hm2.trans hm4).trans h8⟩
theorem res1_spec (q : ResM) {w : World} {bc : Nat} {s : ByteArray} (hb : blk w bc = some (.cells #[.string s] 9)) : Meets Tryz.prog 162 #[.agg q.cells.toArray, .pointer (some ⟨bc, 0, none⟩)] w fun v w' => v = .bool (decide (q.name = s)) ∧ Same w w' := by
 refine f162_ok ?_
 unfold f162
 refine knew_of fun w2 hm2 hs2 hb2 => ?_
 have hb2 : blk w2 w.heap.size = some (.cells q.cells.toArray 82) := hb2
 have hbc := hm2.get hb (fun h => h)
 refine kfld_of ?_
 refine kld_of (v := .string q.name) hb2 (by simp [ResM.cells]) ?_
 refine kld_of (v := .string s) hbc rfl ?_
 rw [kstr_eql]
 exact ⟨rfl, hm2⟩
theorem indexR_spec {w : World} {a : Option Addr} {R : List ResM} {cp : Nat} (hs : SlIs w a R.length 2 (R.flatMap ResM.cells)) {bc : Nat} {s : ByteArray} (hb : blk w bc = some (.cells #[.string s] 9)) {k : Nat} (hk : k < R.length) (hkc : (R[k]).name = s) (hbef : ∀ j (hj : j < R.length), j < k → (R[j]).name ≠ s) (hlen : R.length ≤ 1000000) :
  Meets Tryz.prog 161 #[.slice a R.length cp, .func (.func 162) #[] #[.pointer (some ⟨bc, 0, none⟩)]] w fun v w' => v = .int .i64 k ∧ Same w w' := by
 refine f161_ok ?_
 unfold f161
 refine klen_at ?_
 refine kL1_of R.length (fun j x wr => x = .int .i64 j ∧ j ≤ k ∧ Same w wr) ⟨lI1_0 ⟨rfl, by omega, Mod.refl _ _⟩, fun x wr hx => ?_⟩
 obtain ⟨j, hj, ⟨rfl, hjk, hm⟩, hJ⟩ := lI1_step hx
 unfold f161_0
 refine lss_at ?_
 refine kB_at ?_
 refine kIf_dec (fun hlt => ?_) (fun hge => ?_)
 ·have hlt : j < R.length := by omega
  unfold f161_1
  refine kixldN_of (F := ResM.cells) (sz := 2) (fun _ => rfl) (by omega) (hs.same hm) hlt rfl ?_
  refine kcallC_of (res1_spec R[j] (hm.get hb (fun h => h))) ?_
  rintro v w7 ⟨rfl, h7⟩
  by_cases hjk' : j = k
  ·subst hjk'
   rw [hkc]
   rw [decT rfl]
   refine kB_at ?_
   refine kIf_T rfl ?_
   exact ⟨rfl, hm.trans h7⟩
  ·rw [decF (hbef j hlt (by omega))]
   refine kB_at ?_
   refine kIf_F rfl ?_
   unfold f161_2
   refine add_at (by omega) (by omega) ?_
   rw [cast_succ]
   exact hJ _ _ hlt ⟨rfl, by omega, hm.trans h7⟩
 ·omega
theorem resFind_spec {w : World} {a : Option Addr} {n cp : Nat} {ra : Option Addr} {R : List ResM} {rc : Nat} {L : List Comp} (hs : SlIs w ra R.length 2 (R.flatMap ResM.cells)) (hG : GoodR L R) {k : Nat} (hk : k < R.length) :
  Meets Tryz.prog 108 #[scV a n cp (.slice ra R.length rc), .string (R[k]).name] w fun v w' => v = .tuple #[.int .i64 k, .bool true] ∧ Same w w' := by
 have hl := hG.len
 rw [scV]
 refine f108_ok ?_
 unfold f108
 refine knew_of fun w2 hm2 hs2 hb2 => ?_
 have hb2 : blk w2 w.heap.size = some (.cells #[.slice a n cp, .slice ra R.length rc] 25) := hb2
 refine knew_of fun w4 hm4 hs4 hb4 => ?_
 have hb4 : blk w4 w2.heap.size = some (.cells #[.string (R[k]).name] 9) := hb4
 have hb24 := hm4.get hb2 (fun h => h)
 refine kfld_of ?_
 refine kld_of (v := .slice ra R.length rc) hb24 rfl ?_
 refine kcall_of (indexR_spec (hs.same (hm2.trans hm4)) hb4 hk rfl (fun j hj hjk e => by have := hG.apart j k hj hk e; omega) (by omega)) ?_
 rintro v w8 ⟨rfl, h8⟩
 rw [kmm_max]
 refine geq_at ?_
 rw [decT (by omega), show max (k : Int) 0 = (k : Int) by omega]
 exact ⟨rfl, (hm2.trans hm4).trans h8⟩
theorem resource_spec {w : World} {a : Option Addr} {L : List Comp} {cp : Nat} {ra : Option Addr} {R : List ResM} {rc : Nat} (hs : SlIs w a L.length 7 (L.flatMap Comp.cells)) (hl : L.length ≤ 1000000) (hr : SlIs w ra R.length 2 (R.flatMap ResM.cells)) (hG : GoodR L R) {k : Nat} (hk : k < R.length) (f : Value) :
  Meets Tryz.prog 56 #[f, scV a L.length cp (.slice ra R.length rc), .int .i64 k] w fun v w' => v = .tuple #[] ∧ Same w w' := by
 have hlr := hG.len
 have hkm := List.getElem_mem hk
 rw [scV]
 refine f56_ok ?_
 unfold f56
 refine knew_of fun w2 hm2 hs2 hb2 => ?_
 have hb2 : blk w2 w.heap.size = some (.cells #[.slice a L.length cp, .slice ra R.length rc] 25) := hb2
 refine kfld_of ?_
 refine kld_of (v := .slice ra R.length rc) hb2 rfl ?_
 refine kixfld_of (F := ResM.cells) (sz := 2) (j := 0) (v := .string (R[k]).name) (fun _ => rfl) (hr.same hm2) hk rfl rfl ?_
 refine kldN_at (cs := [.slice a L.length cp, .slice ra R.length rc]) hb2 rfl (by omega) ?_
 have hf := find_none (cp := cp) (ra := ra) (rn := R.length) (rc := rc) (hs.same hm2) hl (fun q hq => hG.other _ hkm q hq)
 rw [scV] at hf
 refine kcall_of hf ?_
 rintro v w10 ⟨rfl, h10⟩
 refine kext_at rfl ?_
 refine kext_at rfl ?_
 refine kldN_at (cs := [.slice a L.length cp, .slice ra R.length rc]) (h10.get hb2 (fun h => h)) rfl (by omega) ?_
 have hf2 := resFind_spec (a := a) (n := L.length) (cp := cp) (rc := rc) (hr.same (hm2.trans h10)) hG hk
 rw [scV] at hf2
 refine kcall_of hf2 ?_
 rintro v w15 ⟨rfl, h15⟩
 refine kext_at rfl ?_
 refine kext_at rfl ?_
 refine kB_at ?_
 refine kIf_T rfl ?_
 refine kB_at ?_
 refine kIf_T rfl ?_
 refine lss_at ?_
 rw [decF (by omega)]
 refine kcall_of (named_spec (hG.names _ hkm) f _ (by omega) w15) ?_
 rintro v w22 ⟨rfl, h22⟩
 exact ⟨rfl, ((hm2.trans h10).trans h15).trans h22⟩
end
section
attribute [local irreducible] kO kB kStr kInt kN kG kIf kfld kld kldN kst knew kmap kbld kbldS kext kcnv klenStr klen kcap kprt kprtN kbool kint kstr keq kun ksl kix kiv kta kmk kmm ksem ksemU kextf kcallV kcallM kcall kL
theorem checkR_spec {w : World} {a : Option Addr} {L : List Comp} {cp : Nat} {ra : Option Addr} {R : List ResM} {rc : Nat} (hs : SlIs w a L.length 7 (L.flatMap Comp.cells)) (hG : GoodSc L) (hr : SlIs w ra R.length 2 (R.flatMap ResM.cells)) (hGR : GoodR L R) :
  Meets Tryz.prog 22 #[scV a L.length cp (.slice ra R.length rc)] w fun v w' => v = .nilIface ∧ Same w w' := by
 have hl := hG.len
 have hlr := hGR.len
 rw [scV]
 refine f22_ok ?_
 unfold f22
 refine knew_of fun w2 hm2 hs2 hb2 => ?_
 have hb2 : blk w2 w.heap.size = some (.cells #[.slice a L.length cp, .slice ra R.length rc] 25) := hb2
 refine kbld_of (cs := [.slice none 0 0]) rfl ?_
 refine knew_of fun w5 hm5 hs5 hb5 => ?_
 have hb25 := hm5.get hb2 (fun h => h)
 have m5 := hm2.trans hm5
 refine kfld_of ?_
 refine kld_at hb25 rfl ?_
 refine klen_at ?_
 refine gtr_at ?_
 refine kB_at ?_
 refine kIf_F (decF (by omega)) ?_
 refine kfld_of ?_
 refine kld_at hb25 rfl ?_
 refine klen_at ?_
 refine kL1_of L.length (fun j x wr => x = .int .i64 j ∧ Same w5 wr) ⟨lI1_0 ⟨rfl, Mod.refl _ _⟩, fun x wr hx => ?_⟩
 obtain ⟨j, hj, ⟨rfl, hm⟩, hJ⟩ := lI1_step hx
 have hbr := hm.get hb25 (fun h => h)
 have h5r := hm.get hb5 (fun h => h)
 unfold f22_1
 refine lss_at ?_
 refine kB_at ?_
 refine kIf_dec (fun hlt => ?_) (fun hge => ?_)
 ·have hlt : j < L.length := by omega
  unfold f22_2
  refine kldN_at hbr rfl (by omega) ?_
  have hcs := component_spec (ra := ra) (rn := R.length) (rc := rc) (cp := cp) (hs.same (m5.trans hm)) hG hlt (.pointer (some ⟨w2.heap.size, 0, none⟩))
  rw [scV] at hcs
  refine kcall_of hcs ?_
  rintro v w23 ⟨rfl, h23⟩
  refine add_at (by omega) (by omega) ?_
  rw [cast_succ]
  exact hJ _ _ hlt ⟨rfl, hm.trans h23⟩
 ·unfold f22_4
  refine kfld_of ?_
  refine kld_at hbr rfl ?_
  refine klen_at ?_
  refine gtr_at ?_
  refine kB_at ?_
  refine kIf_F (decF (by omega)) ?_
  refine kfld_of ?_
  refine kld_at hbr rfl ?_
  refine klen_at ?_
  refine kL1_of R.length (fun j x w1 => x = .int .i64 j ∧ Same wr w1) ⟨lI1_0 ⟨rfl, Mod.refl _ _⟩, fun x w1 hx => ?_⟩
  obtain ⟨j', hj', ⟨rfl, hm1⟩, hJ1⟩ := lI1_step hx
  have h5r := hm1.get h5r (fun h => h)
  have hbr1 := hm1.get hbr (fun h => h)
  have hmw := m5.trans (hm.trans hm1)
  unfold f22_6
  refine lss_at ?_
  refine kB_at ?_
  refine kIf_dec (fun hlt2 => ?_) (fun hge2 => ?_)
  ·have hlt2 : j' < R.length := by omega
   unfold f22_7
   refine kldN_at (cs := [.slice a L.length cp, .slice ra R.length rc]) hbr1 rfl (by omega) ?_
   have hrs := resource_spec (cp := cp) (rc := rc) (hs.same hmw) (by omega) (hr.same hmw) hGR hlt2 (.pointer (some ⟨w2.heap.size, 0, none⟩))
   rw [scV] at hrs
   refine kcall_of hrs ?_
   rintro v w42 ⟨rfl, h42⟩
   unfold f22_8
   refine add_at (by omega) (by omega) ?_
   rw [cast_succ]
   exact hJ1 _ _ hlt2 ⟨rfl, hm1.trans h42⟩
  ·unfold f22_9
   have h5r : blk w1 w2.heap.size = some (.cells #[.slice none 0 0] 133) := h5r
   refine kN_at ?_
   refine kfld_of ?_
   refine kld_at h5r rfl ?_
   refine kcall_of (All_spec (S := fun _ => ⟨0, 0, none⟩) (d := 0) (zs := []) (SlIs.nil _ _ _) (fun p hp => by cases hp) (by simp) (by simp)) ?_
   rintro v w46 ⟨h1, h46⟩
   rcases h1.nil_iff with ⟨_, rfl⟩ | ⟨h, _⟩
   ·exact ⟨rfl, hmw.trans h46⟩
   ·exact absurd rfl h
end
section
attribute [local irreducible] kO kB kStr kInt kN kG kIf kfld kld kldN kst knew kmap kbld kbldS kext kcnv klenStr klen kcap kprt kprtN kbool kint kstr keq kun ksl kix kiv kta kmk kmm ksem ksemU kextf kcallV kcallM kcall kL
theorem apComp : appT Tryz.prog 22 7 64 = true := by kernel_rfl
theorem slComp : isSlT Tryz.prog 22 = true := by kernel_rfl
theorem slComp_is : ∃ e, Tryz.prog.underlying 22 = some (.slice e) := slT_of (by kernel_rfl)
theorem apRes : appT Tryz.prog 23 2 24 = true := by kernel_rfl
theorem slRes : isSlT Tryz.prog 23 = true := by kernel_rfl
theorem slRes_is : ∃ e, Tryz.prog.underlying 23 = some (.slice e) := slT_of (by kernel_rfl)
theorem ones_comps : ∀ L : List Comp, oneCells (L.flatMap Comp.cells) = true
 | [] => rfl
 | q :: L => by
  rw [List.flatMap_cons]
  show oneCells (.string q.name :: .int .i64 q.width :: .bool q.rb :: .int .i64 q.d0 :: .int .i64 q.d1 :: .int .i64 q.d2 :: .int .i64 q.d3 :: L.flatMap Comp.cells) = true
  simp only [oneCells, ones_comps L]; rfl
theorem cloneC_spec {w : World} {a : Option Addr} {L : List Comp} {c : Nat} (hs : SlIs w a L.length 7 (L.flatMap Comp.cells)) (hn : L.length ≤ 1000000) :
  Meets Tryz.prog 65 #[.slice a L.length c] w fun v w' => Own w' v 7 (L.flatMap Comp.cells) ∧ Same w w' ∧ (∀ k, vblk v k → w.heap.size ≤ k) := by
 have hfl := flat_len Comp.cells 7 (fun _ => rfl) L
 refine f65_ok ?_
 unfold f65
 rw [keq_sl_nil slComp]
 cases a with
 | none =>
  have hL : L.length = 0 := by rcases hs.2 with h | ⟨_, _, _, _, _, h, _⟩; exact h; cases h
  have : L = [] := List.eq_nil_of_length_eq_zero hL
  subst this
  refine kB_at ?_
  refine kIf_T rfl ?_
  exact ⟨Own.nil _ _, Mod.refl _ _, fun b hb => by obtain ⟨_, _, _, h⟩ := hb; cases h⟩
 | some a =>
  refine kB_at ?_
  refine kIf_F rfl ?_
  unfold f65_0
  refine kbldS_of (cs := []) rfl fun w5 h5 hs5 hb5 => ?_
  refine ksem_append apComp (by omega) (vs := []) (Own.blk hb5 (n := 0) (by simp) (by simp [maxLen])) (Src.ofSlIs (hk := slComp_is.choose_spec) c (hs.same h5) (ones_comps L)) (by simp [hfl]; omega) (by simp [hfl]; omega) ?_
  intro v' w' ho hm hf
  refine ⟨by simpa using ho, Mod.after h5 hm (fun b hb => by rw [vblk_new hb]; exact Nat.le_refl _), fun b hb => ?_⟩
  rcases hf b hb with h | h
  ·rw [vblk_new h]; exact Nat.le_refl _
  ·omega
theorem ones_res : ∀ R : List ResM, oneCells (R.flatMap ResM.cells) = true
 | [] => rfl
 | q :: R => by
  rw [List.flatMap_cons]
  show oneCells (.string q.name :: .int .i64 q.value :: R.flatMap ResM.cells) = true
  simp only [oneCells, ones_res R]; rfl
theorem cloneRR_spec {w : World} {a : Option Addr} {R : List ResM} {c : Nat} (hs : SlIs w a R.length 2 (R.flatMap ResM.cells)) (hn : R.length ≤ 1000000) :
  Meets Tryz.prog 66 #[.slice a R.length c] w fun v w' => (∃ a' n' c', v = .slice a' n' c') ∧ Same w w' := by
 have hfl := flat_len ResM.cells 2 (fun _ => rfl) R
 refine f66_ok ?_
 unfold f66
 rw [keq_sl_nil slRes]
 cases a with
 | none =>
  refine kB_at ?_
  refine kIf_T rfl ?_
  exact ⟨⟨_, _, _, rfl⟩, Mod.refl _ _⟩
 | some a =>
  refine kB_at ?_
  refine kIf_F rfl ?_
  unfold f66_0
  refine kbldS_of (cs := []) rfl fun w5 h5 hs5 hb5 => ?_
  refine ksem_append apRes (by omega) (vs := []) (Own.blk hb5 (n := 0) (by simp) (by simp [maxLen])) (Src.ofSlIs (hk := slRes_is.choose_spec) c (hs.same h5) (ones_res R)) (by simp [hfl]; omega) (by simp [hfl]; omega) ?_
  intro v' w' ho hm hf
  obtain ⟨a', n', c', rfl, _⟩ := ho.is
  exact ⟨⟨_, _, _, rfl⟩, Mod.after h5 hm (fun b hb => by rw [vblk_new hb]; exact Nat.le_refl _)⟩
end
section
attribute [local irreducible] kO kB kStr kInt kN kG kIf kfld kld kldN kst knew kmap kbld kbldS kext kcnv klenStr klen kcap kprt kprtN kbool kint kstr keq kun ksl kix kiv kta kmk kmm ksem ksemU kextf kcallV kcallM kcall kL
def newS0 (L : List Comp) (most : Nat) : SM := ⟨List.replicate most (0, false), (List.range most).reverse, L, [0], [], List.replicate most (0, 0)⟩
def newS (L : List Comp) (most : Nat) : SM := layS (newS0 L most) 1
theorem newS_gs {L : List Comp} {most : Nat} (h : most ≤ 64) : GS (newS L most) 0 := by
 have hd : ∀ (i : Nat) (x : Int × Bool), (List.replicate most ((0 : Int), false))[i]? = some x → x = (0, false) := fun i x e => by
  obtain ⟨_, e⟩ := List.getElem?_eq_some_iff.1 e
  rw [List.getElem_replicate] at e; exact e.symm
 refine ⟨⟨by simp [newS, newS0, layS], fun i g hg _ => ?_, fun n T r e hT hr => ?_, fun n T c hT hc => ?_⟩, ⟨?_, fun i => ?_⟩, fun i x hx => ?_, by simp [newS, newS0, layS], by simp [newS, newS0, layS]; exact h⟩
 ·have := hd i _ hg; cases this
 ·rcases layS_tabs hT with hT | rfl
  ·cases hT
  ·cases hr
 ·rcases layS_tabs hT with hT | rfl
  ·cases hT
  ·rfl
 ·show (List.range most).reverse.Nodup
  unfold List.Nodup
  rw [List.pairwise_reverse]
  exact List.nodup_range.imp (fun h e => h e.symm)
 ·show i ∈ (List.range most).reverse ↔ ∃ g, (List.replicate most ((0 : Int), false))[i]? = some (g, false)
  rw [List.mem_reverse, List.mem_range]
  constructor
  ·intro hi; exact ⟨0, by rw [List.getElem?_replicate, if_pos hi]⟩
  ·rintro ⟨g, e⟩
   have := (List.getElem?_eq_some_iff.1 e).1
   simpa using this
 ·have := hd i x hx
  subst this
  simp
def newLab (o : Lab) (n bc bp bS k : Nat) : Option Tag := if k < n then o k else if k = bS then some .store else if k = bp then some .spots else if k = bc then some .sch else none
theorem newS_good {L : List Comp} (hG : GoodSc L) : GoodC L := ⟨hG.len, fun q hq => by obtain ⟨d, e, h1, h4⟩ := hG.wide q hq; omega⟩
theorem sNewR_spec {w : World} (hD : DeAt w) {a : Option Addr} {L : List Comp} {cp : Nat} {ra : Option Addr} {R : List ResM} {rc : Nat} (hs : SlIs w a L.length 7 (L.flatMap Comp.cells)) (hG : GoodSc L) (hr : SlIs w ra R.length 2 (R.flatMap ResM.cells)) (hGR : GoodR L R) {most : Nat} (hm : most ≤ 64) :
  Meets Tryz.prog 62 #[scV a L.length cp (.slice ra R.length rc), .int .i64 most] w fun v w' => ∃ b, v = .tuple #[ptrV b, .nilIface] ∧ ∃ o p, StoreP o w' b p (newS L most) ∧ (∀ k, k < w.heap.size → o k = none) ∧ (∀ k, w'.heap.size ≤ k → o k = none) ∧ Same w w' := by
 have hl := hG.len
 have hlR := hGR.len
 rw [scV]
 refine f62_ok ?_
 unfold f62
 refine knew_of fun w2 h2 hs2 hb2 => ?_
 have hb2 : blk w2 w.heap.size = some (.cells #[.slice a L.length cp, .slice ra R.length rc] 25) := hb2
 refine kldN_at hb2 rfl (by omega) ?_
 have hck := checkR_spec (ra := ra) (rc := rc) (cp := cp) (hs.same h2) hG (hr.same h2) hGR
 rw [scV] at hck
 refine kcall_of hck ?_
 rintro v w5 ⟨rfl, h5⟩
 have hb5 := h5.get hb2 (fun h => h)
 have m5 := h2.trans h5
 rw [keq_nil_nil' ifErr]
 refine kB_at ?_
 refine kIf_F rfl ?_
 unfold f62_0
 refine kcall_of (rNew_spec (fun _ => none) w5 most hm) ?_
 rintro v w11 ⟨bR, o1, rfl, hl1, hR, h11, hr1, hbR⟩
 have hb11 := h11.get hb5 (fun h => h)
 have m11 := m5.trans h11
 have hRl := hR.1
 refine kext_at rfl ?_
 refine kext_at rfl ?_
 rw [keq_nil_nil' ifErr]
 refine kB_at ?_
 refine kIf_F rfl ?_
 unfold f62_1
 refine kfld_of ?_
 refine kld_at hb11 rfl ?_
 refine klen_at ?_
 have ho1 : ∀ k t, cutL o1 w11.heap.size k = some t → ¬ atlasTag t := fun k t e et => by
  unfold cutL at e
  split at e
  ·rcases Nat.lt_or_ge k w5.heap.size with hk | hk
   ·rw [hl1 k hk] at e; cases e
   ·obtain ⟨t', e1, e2⟩ := hr1 k hk
    rw [e] at e1; cases e1
    exact tag_roll_atlas e2 et
  ·cases e
 refine kcall_of (newAt_spec (cutL o1 w11.heap.size) ho1 w11 L.length hl) ?_
 rintro v w23 ⟨bA, o2, rfl, hl2, hA, h23⟩
 have hb23 := h23.get hb11 (fun h => h)
 have m23 := m11.trans h23
 have hR1 : RollAt (cutL o1 w11.heap.size) w11 bR _ _ := hR.frame (Mod.refl (fun _ => False) _) (fun _ _ _ _ h => h) (LabEq.cut w11 o1)
 have hR2 := hR1.frame h23 (fun _ _ _ _ h => h) hl2
 have hsz5 := m5.size
 have hsz11 := h11.size
 have hsz23 := h23.size
 have ho2 : ∀ k, k < w.heap.size → o2 k = none := fun k hk => by
  rw [hl2 k (by omega)]
  unfold cutL
  rw [if_pos (by omega), hl1 k (by omega)]
 have hDlt := hD.lt
 refine kext_at rfl ?_
 refine kext_at rfl ?_
 rw [keq_nil_nil' ifErr]
 refine kB_at ?_
 refine kIf_F rfl ?_
 have fin : ∀ (bsc : Nat) (wy : World) (ca : Option Addr) (cc : Nat) (rv : Value), Same w23 wy → blk wy bsc = some (.cells #[.slice ca L.length cc, rv] 25) → SlIs wy ca L.length 7 (L.flatMap Comp.cells) → (∀ k f, ca = some ⟨k, f, none⟩ → w23.heap.size ≤ k ∧ k < wy.heap.size) → rv.oneCell' = true →
   f62_3 (.int .i64 most) (.pointer (some ⟨bR, 0, none⟩)) (ptrV bA) (.pointer (some ⟨bsc, 0, none⟩)) (fun v w' => ∃ b, v = .tuple #[ptrV b, .nilIface] ∧ ∃ o p, StoreP o w' b p (newS L most) ∧ (∀ k, k < w.heap.size → o k = none) ∧ (∀ k, w'.heap.size ≤ k → o k = none) ∧ Same w w') wy := by
  intro bsc wy ca cc rv hwy hbsc hca hcf hrv
  have hszy := hwy.size
  unfold f62_3
  have hbscd : blk wy.drew bsc = _ := hbsc
  refine kldN_at hbscd rfl (by omega) ?_
  refine kG_of rfl ?_
  refine kmk_of (by omega) (by omega) fun w44 h44 hs44 hb44 => ?_
  have hbsc44 := h44.get hbscd (fun h => h)
  refine kG_of (kldN_at hbsc44 rfl (by omega) ⟨rfl, rfl⟩) ?_
  refine kbld_of (cs := [.pointer (some ⟨bR, 0, none⟩), .slice ca L.length cc, rv, ptrV bA, .slice none 0 0, .slice (some ⟨wy.heap.size, 0, none⟩) most most]) rfl ?_
  refine knew_of fun w47 h47 hs47 hb47 => ?_
  have hb47 : blk w47 w44.heap.size = some (.cells #[.pointer (some ⟨bR, 0, none⟩), .slice ca L.length cc, rv, ptrV bA, .slice none 0 0, .slice (some ⟨wy.heap.size, 0, none⟩) most most] 243) := hb47
  have hs44 : w44.heap.size = wy.heap.size + 1 := hs44
  have m47 : Same w23 w47 := ((hwy.trans (Mod.refl (fun _ => False) _).drew).trans h44).trans h47
  have hz : zrow (Value.agg #[.int .i64 0, .int .i64 0]).cells.toList most = (List.replicate most ((0 : Nat), (0 : Nat))).flatMap spotC := zrow_rep (F := spotC) ((0 : Nat), (0 : Nat)) most
  rw [hz] at hb44
  have hb44 : blk w44 wy.heap.size = some (.cells ((List.replicate most ((0 : Nat), (0 : Nat))).flatMap spotC).toArray 263) := hb44
  have hOs := Own.blk (h47.get hb44 (fun h => h)) (n := most) (sz := 2) (by rw [List.size_toArray, flat_len spotC 2 (fun _ => rfl), List.length_replicate]) (by simp [maxLen]; omega)
  rw [List.toList_toArray] at hOs
  generalize hbcB : (match ca with | some x => x.block | none => 0) = bcB
  have hlo : LabEq w23 o2 (newLab o2 w23.heap.size bcB wy.heap.size w44.heap.size) := fun k hk => by unfold newLab; rw [if_pos hk]
  have hl47 : newLab o2 w23.heap.size bcB wy.heap.size w44.heap.size w44.heap.size = some .store := by unfold newLab; rw [if_neg (by omega), if_pos rfl]
  have hlsp : newLab o2 w23.heap.size bcB wy.heap.size w44.heap.size wy.heap.size = some .spots := by unfold newLab; rw [if_neg (by omega), if_neg (by omega), if_pos rfl]
  have hP : StoreP (newLab o2 w23.heap.size bcB wy.heap.size w44.heap.size) w47 w44.heap.size ⟨bR, bA, ca, cc, rv, .slice none 0 0, .slice (some ⟨wy.heap.size, 0, none⟩) most most, fun _ => 0, fun _ _ => 0⟩ (newS0 L most) := {
   lab := hl47
   good := newS_good hG
   tle := by simp [newS0]
   mle := by simp [newS0]
   sle := by simp [newS0]; exact hm
   here := hb47
   roll := hR2.frame m47 (fun _ _ _ _ h => h) hlo
   atlas := hA.frame m47 (fun _ _ _ _ h => h) hlo
   sch := (hca.same (Mod.refl (fun _ => False) _).drew).same (h44.trans h47)
   schl := fun k f e => by
    have e : ca = some ⟨k, f, none⟩ := e
    obtain ⟨k1, k2⟩ := hcf k f e
    have hk : k = bcB := by rw [← hbcB, e]
    refine ⟨?_, by omega⟩
    unfold newLab
    rw [if_neg (by omega), if_neg (by omega), if_neg (by omega), if_pos hk]
   tabs := Own.nil _ _
   tabsl := fun k e => by obtain ⟨_, _, _, e⟩ := e; cases e
   spots := hOs
   spotsl := fun k e => by obtain ⟨_, _, _, e⟩ := e; cases e; exact hlsp
   tab := fun i hi => by simp [newS0] at hi }
  have hDn : newLab o2 w23.heap.size bcB wy.heap.size w44.heap.size 20 = none := by
   unfold newLab
   rw [if_pos (by omega)]
   exact ho2 _ (by omega)
  have h47' : Same w w47 := m23.trans m47
  refine kcall_of (sLay_spec (hD.same h47') hP hDn) ?_
  rintro v w49 ⟨rfl, o4, p4, hl4, hP4, hm4, hc4⟩
  have hn : ∀ k, k < w.heap.size → newLab o2 w23.heap.size bcB wy.heap.size w44.heap.size k = none := fun k hk => by
   unfold newLab
   rw [if_pos (by omega)]
   exact ho2 k hk
  have hsz47 := h47'.size
  refine ⟨w44.heap.size, rfl, o4, p4, hP4, fun k hk => by rw [hl4 k (by omega)]; exact hn k hk, hc4, h47'.trans' (hm4.mono fun k _ ⟨t, e1, _⟩ => .inr ?_)⟩
  rcases Nat.lt_or_ge k w.heap.size with hk | hk
  ·rw [hn k hk] at e1; cases e1
  ·exact hk
 have hbd : blk w23.drew w.heap.size = some (.cells #[.slice a L.length cp, .slice ra R.length rc] 25) := hb23
 have md : Same w23 w23.drew := (Mod.refl (fun _ => False) _).drew
 have hsd := (hs.same m23).same md
 have hrd := (hr.same m23).same md
 unfold f62_2
 refine ⟨?_, ?_⟩
 ·refine kfld_of ?_
  refine kld_at hbd rfl ?_
  refine kG_of rfl ?_
  refine kcall_of (cloneC_spec hsd (by omega)) ?_
  rintro v w33 ⟨hO, h33, hf⟩
  obtain ⟨ca, cn, cc, rfl, hcs, _⟩ := hO.is
  have hcn : cn = L.length := by
   have := hcs.1
   rw [flat_len Comp.cells 7 (fun _ => rfl)] at this
   omega
  subst hcn
  have hb33 := h33.get hbd (fun h => h)
  have hfk : ∀ k f, ca = some ⟨k, f, none⟩ → w23.heap.size ≤ k ∧ k < w33.heap.size := fun k f e => by
   have hv : vblk (.slice ca L.length cc) k := ⟨f, _, _, by rw [e]⟩
   exact ⟨hf k hv, hO.vblk_lt hv⟩
  refine ⟨?_, ?_⟩
  ·refine kfld_of ?_
   refine kld_at hb33 rfl ?_
   refine kG_of rfl ?_
   refine kG_of (kld_at hbd rfl ⟨rfl, rfl⟩) ?_
   refine kcall_of (cloneRR_spec (hrd.same h33) (by omega)) ?_
   rintro v w37 ⟨⟨a', n', c', rfl⟩, h37⟩
   refine knew_of fun w39 h39 hs39 hb39 => ?_
   have hb39' := h39.get (h37.get hb33 (fun h => h)) (fun h => h)
   refine kG_of (kld_at hb39' rfl ⟨rfl, rfl⟩) ?_
   refine kG_of (kld_at hb39' rfl ⟨rfl, rfl⟩) ?_
   refine kbld_of (cs := [.slice ca L.length cc, .slice a' n' c']) rfl ?_
   refine kst_of (vs := [.slice ca L.length cc, .slice a' n' c']) hb39 rfl rfl rfl (by simp) (by simp) fun w41 h41 hs41 hb41 => ?_
   have m41 : Same w33 w41 := (h37.trans h39).trans' (h41.mono fun k _ e => .inr (by have := h37.size; omega))
   exact fin _ w41 ca cc _ ((md.trans h33).trans m41) hb41 (hcs.same m41) (fun k f e => by have := hfk k f e; have := m41.size; omega) rfl
  ·refine knew_of fun w39 h39 hs39 hb39 => ?_
   have hb39' := h39.get hb33 (fun h => h)
   refine kG_of (kld_at hb39' rfl ⟨rfl, rfl⟩) ?_
   refine kfld_of ?_
   refine kld_at hb39' rfl ?_
   refine kG_of rfl ?_
   refine kG_of (kld_at hb33 rfl ⟨rfl, rfl⟩) ?_
   refine kG_of (kld_at hbd rfl ⟨rfl, rfl⟩) ?_
   refine kcall_of (cloneRR_spec (hrd.same (h33.trans h39)) (by omega)) ?_
   rintro v w37 ⟨⟨a', n', c', rfl⟩, h37⟩
   refine kbld_of (cs := [.slice ca L.length cc, .slice a' n' c']) rfl ?_
   refine kst_of (vs := [.slice ca L.length cc, .slice a' n' c']) (h37.get hb39 (fun h => h)) rfl rfl rfl (by simp) (by simp) fun w41 h41 hs41 hb41 => ?_
   have m41 : Same w33 w41 := (h39.trans h37).trans' (h41.mono fun k _ e => .inr (by omega))
   exact fin _ w41 ca cc _ ((md.trans h33).trans m41) hb41 (hcs.same m41) (fun k f e => by have := hfk k f e; have := m41.size; omega) rfl
 ·refine knew_of fun w39 h39 hs39 hb39 => ?_
  have hb39' := h39.get hbd (fun h => h)
  refine kfld_of ?_
  refine kld_at hb39' rfl ?_
  refine kG_of rfl ?_
  refine kG_of (kld_at hbd rfl ⟨rfl, rfl⟩) ?_
  refine kcall_of (cloneC_spec (hsd.same h39) (by omega)) ?_
  rintro v w33 ⟨hO, h33, hf⟩
  obtain ⟨ca, cn, cc, rfl, hcs, _⟩ := hO.is
  have hcn : cn = L.length := by
   have := hcs.1
   rw [flat_len Comp.cells 7 (fun _ => rfl)] at this
   omega
  subst hcn
  have hb33 := h33.get hb39' (fun h => h)
  have hfk : ∀ k f, ca = some ⟨k, f, none⟩ → w23.heap.size ≤ k ∧ k < w33.heap.size := fun k f e => by
   have hv : vblk (.slice ca L.length cc) k := ⟨f, _, _, by rw [e]⟩
   have h1 := hf k hv
   have h2 : w23.drew.heap.size = w23.heap.size := rfl
   exact ⟨by omega, hO.vblk_lt hv⟩
  refine kfld_of ?_
  refine kld_at hb33 rfl ?_
  refine kG_of rfl ?_
  refine kG_of (kld_at hb39' rfl ⟨rfl, rfl⟩) ?_
  refine kG_of (kld_at hbd rfl ⟨rfl, rfl⟩) ?_
  refine kcall_of (cloneRR_spec (hrd.same (h39.trans h33)) (by omega)) ?_
  rintro v w37 ⟨⟨a', n', c', rfl⟩, h37⟩
  refine kbld_of (cs := [.slice ca L.length cc, .slice a' n' c']) rfl ?_
  refine kst_of (vs := [.slice ca L.length cc, .slice a' n' c']) (h37.get (h33.get hb39 (fun h => h)) (fun h => h)) rfl rfl rfl (by simp) (by simp) fun w41 h41 hs41 hb41 => ?_
  have m41 : Same w23 w41 := (((md.trans h39).trans h33).trans h37).trans' (h41.mono fun k _ e => .inr (by have h2 : w23.drew.heap.size = w23.heap.size := rfl; omega))
  have m33 : Mod (fun k => k = w23.heap.size) w33 w41 := (Mod.of_same h37).trans h41
  refine fin _ w41 ca cc _ m41 hb41 (hcs.mod m33 fun k f e ek => ?_) (fun k f e => by have := hfk k f e; have := m33.size; omega) rfl
  have h1 := hf k ⟨f, _, _, by rw [e]⟩
  have h2 : w23.drew.heap.size = w23.heap.size := rfl
  omega
end
section
attribute [local irreducible] kO kB kStr kInt kN kG kIf kfld kld kldN kst knew kmap kbld kbldS kext kcnv klenStr klen kcap kprt kprtN kbool kint kstr keq kun ksl kix kiv kta kmk kmm ksem ksemU kextf kcallV kcallM kcall kL
theorem sSet_err {Sa : Nat → Addr} {k : Nat} {w : World} {b : Nat} {idx gen c : Int} {v3 v4 v5 : Value}
  (h : ∀ w2, Same w w2 → Meets Tryz.prog 229 #[ptrV b, entV idx gen, .int .i64 c] w2 fun v w' => ∃ x, v = .tuple #[.pointer none, .int .i64 0, x] ∧ ErrX Sa k w2.heap.size x w' ∧ Same w2 w') :
  Meets Tryz.prog 196 #[ptrV b, entV idx gen, .int .i64 c, v3, v4, v5] w fun v w' => ∃ x, v = .tuple #[zPartV, x] ∧ ErrX Sa k w.heap.size x w' ∧ Same w w' := by
 refine f196_ok ?_
 unfold f196
 refine knew_of fun w2 hm2 hs2 hb2 => ?_
 have hb2 : blk w2 w.heap.size = some (.cells #[.int .i64 idx, .int .i64 gen] 176) := hb2
 refine knew_of fun w4 hm4 hs4 hb4 => ?_
 have m4 := hm2.trans hm4
 have hb2' := hm4.get hb2 (fun h => h)
 refine kldN_at hb2' rfl (by omega) ?_
 refine kcall_of (h w4 m4) ?_
 rintro v w7 ⟨x, rfl, hx, h7⟩
 have m7 := m4.trans h7
 have hb7 := h7.get hb4 (fun h => h)
 obtain ⟨t, y, rfl⟩ := hx.if
 refine kext_at rfl ?_
 refine kext_at rfl ?_
 refine kext_at rfl ?_
 rw [keq_if_nil' ifErr]
 refine kB_at ?_
 refine kIf_T rfl ?_
 refine kbld_of (cs := [.int .i64 0, .int .i64 0, .int .i64 0, .int .i64 0, .int .i64 0, .int .i64 0]) rfl ?_
 refine kst_of (vs := [.int .i64 0, .int .i64 0, .int .i64 0, .int .i64 0, .int .i64 0, .int .i64 0]) hb7 rfl rfl rfl (by simp) (by simp) fun w20 h20 hs20 hb20 => ?_
 have hb20 : blk w20 w2.heap.size = some (.cells #[.int .i64 0, .int .i64 0, .int .i64 0, .int .i64 0, .int .i64 0, .int .i64 0] 102) := hb20
 refine kldN_at hb20 rfl (by omega) ?_
 exact ⟨_, rfl, (hx.mod h20 fun k h1 h2 e => by omega).mono (by omega), m7.trans' (h20.mono fun k _ e => .inr (by omega))⟩
structure Cur (w0 : World) (o : Lab) (w : World) (b : Nat) (p : Ptrs) (S : SM) (t : Nat) : Prop where
 sp : StoreP o w b p S
 gs : GS S t
 lo : ∀ k, k < w0.heap.size → o k = none
 hi : ∀ k, w.heap.size ≤ k → o k = none
 same : Same w0 w
theorem Cur.loc {w0 : World} {o : Lab} {w w2 : World} {b : Nat} {p : Ptrs} {S : SM} {t : Nat} (h : Cur w0 o w b p S t) (m : Same w w2) : Cur w0 o w2 b p S t :=
 ⟨h.sp.same m, h.gs, h.lo, fun k hk => h.hi k (Nat.le_trans m.size hk), h.same.trans m⟩
theorem Cur.turn {w0 : World} {o : Lab} {w w' : World} {b : Nat} {p : Ptrs} {S S' : SM} {t t' : Nat} (h : Cur w0 o w b p S t) (T : Turned o w b S' w') (hG : GS S' t') : ∃ o' p', Cur w0 o' w' b p' S' t' ∧ LabEq w o o' ∧ Mod (fun k => o k ≠ none) w w' := by
 obtain ⟨o', p', hl, hP, hm, hc⟩ := T
 have hs := h.same.size
 have hm' : Mod (fun k => o k ≠ none) w w' := hm.mono fun k _ ⟨t, e, _⟩ => by rw [e]; simp
 refine ⟨o', p', ⟨hP, hG, fun k hk => by rw [hl k (by omega)]; exact h.lo k hk, hc, h.same.trans' (hm'.mono fun k _ e => .inr ?_)⟩, hl, hm'⟩
 rcases Nat.lt_or_ge k w0.heap.size with hk | hk
 ·exact absurd (h.lo k hk) e
 ·exact hk
theorem Just.len {L : List (Int × Int)} {P : Nat → Int → Prop} (h : Just L P) {l : List (Int × Int)} (hn : l.Nodup) (hl : ∀ (i : Nat) (g : Int), ((i : Int), g) ∈ l ↔ P i g) (hp : ∀ e ∈ l, 0 ≤ e.1) : L.length = l.length := by
 refine ((List.perm_ext_iff_of_nodup h.1 hn).2 fun e => ?_).length_eq
 rw [h.2.2 e]
 constructor
 ·rintro ⟨i, g, rfl, hP⟩; exact (hl i g).2 hP
 ·intro he
  have h0 := hp e he
  refine ⟨e.1.toNat, e.2, ?_, ?_⟩
  ·rw [Int.toNat_of_nonneg h0]
  ·rw [← hl, Int.toNat_of_nonneg h0]; exact he
end
section

end
section
attribute [local irreducible] kO kB kStr kInt kN kG kIf kfld kld kldN kst knew kmap kbld kbldS kext kcnv klenStr klen kcap kprt kprtN kbool kint kstr keq kun ksl kix kiv kta kmk kmm ksem ksemU kextf kcallV kcallM kcall kL
deriving instance DecidableEq for Part
theorem wf_i64 {n : Int} (h : I64 n) : (Lit.int .i64 n).wf = true := by
 simp [Lit.wf, IntKind.min, IntKind.max, IntKind.signed, IntKind.bits]
 exact h
theorem cellsInt : Tryz.prog.cellsOf 3 = 1 := by kernel_rfl
theorem kl_int {n : Int} (h : I64 n) (d : Nat) : Tryz.prog.keyLits (d + 1) 3 [.int .i64 n] = some [.int .i64 n] := by
 unfold Program.keyLits
 simp only [Tryz.underlying3]
 rw [if_pos ⟨trivial, wf_i64 h⟩]
def rr {α β γ : Type} [DecidableEq β] (F : α → β) (G : γ → β) (l1 : List α) (l2 : List γ) (i : Nat) : Bool := match l1[i]?, l2[i]? with
 | some a, some b => decide (F a = G b)
 | _, _ => true
end
section
attribute [local irreducible] kO kB kStr kInt kN kG kIf kfld kld kldN kst knew kmap kbld kbldS kext kcnv klenStr klen kcap kprt kprtN kbool kint kstr keq kun ksl kix kiv kta kmk kmm ksem ksemU kextf kcallV kcallM kcall kL
def pa (c v : Int) : Part := ⟨c, v, 0, 0, 0, 0⟩
def l1 : List Part := [pa 1 0, pa 0 5]
def l2 : List Part := [pa 0 0, pa 1 0]
end
section
attribute [local irreducible] kO kB kStr kInt kN kG kIf kfld kld kldN kst knew kmap kbld kbldS kext kcnv klenStr klen kcap kprt kprtN kbool kint kstr keq kun ksl kix kiv kta kmk kmm ksem ksemU kextf kcallV kcallM kcall kL
end
section
attribute [local irreducible] kO kB kStr kInt kN kG kIf kfld kld kldN kst knew kmap kbld kbldS kext kcnv klenStr klen kcap kprt kprtN kbool kint kstr keq kun ksl kix kiv kta kmk kmm ksem ksemU kextf kcallV kcallM kcall kL
end
section
attribute [local irreducible] kO kB kStr kInt kN kG kIf kfld kld kldN kst knew kmap kbld kbldS kext kcnv klenStr klen kcap kprt kprtN kbool kint kstr keq kun ksl kix kiv kta kmk kmm ksem ksemU kextf kcallV kcallM kcall kL
end
section
attribute [local irreducible] kO kB kStr kInt kN kG kIf kfld kld kldN kst knew kmap kbld kbldS kext kcnv klenStr klen kcap kprt kprtN kbool kint kstr keq kun ksl kix kiv kta kmk kmm ksem ksemU kextf kcallV kcallM kcall kL
end
section

end
section
attribute [local irreducible] kO kB kStr kInt kN kG kIf kfld kld kldN kst knew kmap kbld kbldS kext kcnv klenStr klen kcap kprt kprtN kbool kint kstr keq kun ksl kix kiv kta kmk kmm ksem ksemU kextf kcallV kcallM kcall kL
end
section
attribute [local irreducible] kO kB kStr kInt kN kG kIf kfld kld kldN kst knew kmap kbld kbldS kext kcnv klenStr klen kcap kprt kprtN kbool kint kstr keq kun ksl kix kiv kta kmk kmm ksem ksemU kextf kcallV kcallM kcall kL
end
section
attribute [local irreducible] kO kB kStr kInt kN kG kIf kfld kld kldN kst knew kmap kbld kbldS kext kcnv klenStr klen kcap kprt kprtN kbool kint kstr keq kun ksl kix kiv kta kmk kmm ksem ksemU kextf kcallV kcallM kcall kL
end
section
attribute [local irreducible] kO kB kStr kInt kN kG kIf kfld kld kldN kst knew kmap kbld kbldS kext kcnv klenStr klen kcap kprt kprtN kbool kint kstr keq kun ksl kix kiv kta kmk kmm ksem ksemU kextf kcallV kcallM kcall kL
end
section
attribute [local irreducible] kO kB kStr kInt kN kG kIf kfld kld kldN kst knew kmap kbld kbldS kext kcnv klenStr klen kcap kprt kprtN kbool kint kstr keq kun ksl kix kiv kta kmk kmm ksem ksemU kextf kcallV kcallM kcall kL
end
section
attribute [local irreducible] kO kB kStr kInt kN kG kIf kfld kld kldN kst knew kmap kbld kbldS kext kcnv klenStr klen kcap kprt kprtN kbool kint kstr keq kun ksl kix kiv kta kmk kmm ksem ksemU kextf kcallV kcallM kcall kL
end
section
attribute [local irreducible] kO kB kStr kInt kN kG kIf kfld kld kldN kst knew kmap kbld kbldS kext kcnv klenStr klen kcap kprt kprtN kbool kint kstr keq kun ksl kix kiv kta kmk kmm ksem ksemU kextf kcallV kcallM kcall kL
theorem cellsEnt : Tryz.prog.cellsOf 176 = 2 := by kernel_rfl
theorem kl_ent {i g : Int} (h1 : I64 i) (h2 : I64 g) (d : Nat) : Tryz.prog.keyLits (d + 2) 176 [.int .i64 i, .int .i64 g] = some [.int .i64 i, .int .i64 g] := by
 unfold Program.keyLits
 simp only [Tryz.underlying176, cellsEnt]
 rw [if_pos ⟨by rfl, by kernel_rfl⟩]
 simp [cellsInt, kl_int h1, kl_int h2]
theorem keyEnt : Tryz.prog.keyTypeAt 10 176 = true := by kernel_rfl
theorem formEnt (i g : Int) : Value.formed Tryz.prog 176 (entV i g) = true := by
 unfold Value.formed entV
 simp only [Tryz.underlying176, cellsEnt]
 rfl
end
end Go.Proofs.YtenokhokboicnaaGreatDoor
namespace Go.Ev
open Go Go.RowKit
section
section
variable {α : Type} [DecidableEq α]
def entsG (F : α → Value) : Nat → List (α × Value) → List MapEntry
 | _, [] => []
 | i, (n, v) :: r => { key := F n, val := v, born := i } :: entsG F (i + 1) r
def lkG (n : α) : List (α × Value) → Option (Nat × Value)
 | [] => none
 | (m, v) :: r => if n = m then some (0, v) else (lkG n r).map fun x => (x.1 + 1, x.2)
def valG (n : α) (kv : List (α × Value)) : Option Value := (lkG n kv).map (·.2)
def putG (n : α) (v : Value) : List (α × Value) → List (α × Value)
 | [] => [(n, v)]
 | (m, u) :: r => if n = m then (n, v) :: r else (m, u) :: putG n v r
def MapG (F : α → Value) (w : World) (b : Nat) (kv : List (α × Value)) : Prop := blk w b = some (.map (entsG F 0 kv).toArray kv.length)
structure KeyT (P : Program) (kt : TypeId) (F : α → Value) : Prop where
 find : ∀ n kv w, (Instr.findKey kt (F n) (entsG F 0 kv)).run P w = .ok (lkG n kv) w
 check : ∀ e a w, (Instr.checkKey e 10000 kt (F a)).run P w = .ok () w
 stays : ∀ a, Instr.sameBits 10000 (F a) (F a) = true
theorem valG_put (n m : α) (v : Value) : ∀ kv : List (α × Value), valG n (putG m v kv) = if n = m then some v else valG n kv
 | [] => by
  by_cases h : n = m
  ·simp [valG, putG, lkG, h]
  ·simp [valG, putG, lkG, h]
 | (k, u) :: r => by
  have ih := valG_put n m v r
  unfold valG at ih ⊢
  simp only [putG, lkG]
  by_cases h1 : m = k
  ·subst h1
   rw [if_pos rfl]
   simp only [lkG]
   by_cases h2 : n = m <;> simp [h2]
  ·rw [if_neg h1]
   simp only [lkG]
   by_cases h2 : n = k
   ·have h3 : ¬ n = m := fun e => h1 (by rw [← e, h2])
    simp [h2]
    exact fun e => absurd e.symm h1
   ·simp only [h2, if_false, Option.map_map]
    have e1 : ((lkG n (putG m v r)).map ((fun x : Nat × Value => x.2) ∘ fun x => (x.1 + 1, x.2))) = (lkG n (putG m v r)).map (·.2) := by congr 1
    have e2 : ((lkG n r).map ((fun x : Nat × Value => x.2) ∘ fun x => (x.1 + 1, x.2))) = (lkG n r).map (·.2) := by congr 1
    rw [e1, e2]; exact ih
theorem lkG_none {n : α} : ∀ {kv : List (α × Value)}, lkG n kv = none ↔ n ∉ kv.map (·.1)
 | [] => by simp [lkG]
 | (m, v) :: r => by
  simp only [lkG, List.map_cons, List.mem_cons, not_or]
  by_cases h : n = m
  ·simp [h]
  ·simp [h, lkG_none (n := n) (kv := r)]
theorem lkG_some {n : α} : ∀ {kv : List (α × Value)} {i : Nat} {v : Value}, lkG n kv = some (i, v) → kv[i]? = some (n, v)
 | (m, u) :: r, i, v, h => by
  simp only [lkG] at h
  by_cases e : n = m
  ·rw [if_pos e] at h
   cases h
   simp [e]
  ·rw [if_neg e] at h
   obtain ⟨⟨j, u'⟩, h1, h2⟩ := Option.map_eq_some_iff.1 h
   cases h2
   simpa using lkG_some h1
theorem putG_keys (n : α) (v : Value) : ∀ kv : List (α × Value), (putG n v kv).map (·.1) = if n ∈ kv.map (·.1) then kv.map (·.1) else kv.map (·.1) ++ [n]
 | [] => by simp [putG]
 | (m, u) :: r => by
  simp only [putG]
  by_cases h : n = m
  ·simp [h]
  ·simp only [h, if_false, List.map_cons, List.mem_cons, false_or, putG_keys n v r]
   by_cases h2 : n ∈ r.map (·.1)
   ·simp [h2]
   ·simp [h2]
theorem putG_nodup {n : α} {v : Value} {kv : List (α × Value)} (h : (kv.map (·.1)).Nodup) : ((putG n v kv).map (·.1)).Nodup := by
 rw [putG_keys]
 split
 ·exact h
 ·rename_i hn
  exact List.nodup_append.2 ⟨h, by simp, fun a ha b hb e => by simp at hb; subst hb; subst e; exact hn ha⟩
variable {F : α → Value}
theorem entsG_get {β : Type} {F : β → Value} : ∀ (i : Nat) (kv : List (β × Value)) (j : Nat), (entsG F i kv)[j]? = kv[j]?.map fun x => { key := F x.1, val := x.2, born := i + j }
 | _, [], _ => by simp [entsG]
 | i, (n, v) :: r, 0 => by simp [entsG]
 | i, (n, v) :: r, j + 1 => by
  simp only [entsG, List.getElem?_cons_succ, entsG_get (i + 1) r j]
  rw [show i + 1 + j = i + (j + 1) by omega]
theorem entsG_append {β : Type} {F : β → Value} : ∀ (i : Nat) (kv : List (β × Value)) (x : β × Value), entsG F i (kv ++ [x]) = entsG F i kv ++ [{ key := F x.1, val := x.2, born := i + kv.length }]
 | i, [], x => by simp [entsG]
 | i, (n, v) :: r, x => by simp [entsG, entsG_append (i + 1) r x]; omega
theorem putG_new {n : α} {v : Value} : ∀ {kv : List (α × Value)}, lkG n kv = none → putG n v kv = kv ++ [(n, v)]
 | [], _ => rfl
 | (m, u) :: r, h => by
  simp only [lkG] at h
  by_cases e : n = m
  ·rw [if_pos e] at h; cases h
  ·rw [if_neg e] at h
   simp only [putG, if_neg e]
   rw [putG_new (by simpa using h)]; rfl
theorem putG_old {n : α} {v u : Value} : ∀ {kv : List (α × Value)} {i : Nat}, lkG n kv = some (i, u) → putG n v kv = kv.set i (n, v)
 | (m, x) :: r, i, h => by
  simp only [lkG] at h
  by_cases e : n = m
  ·rw [if_pos e] at h
   cases h
   simp [putG, e]
  ·rw [if_neg e] at h
   obtain ⟨⟨j, u'⟩, h1, h2⟩ := Option.map_eq_some_iff.1 h
   cases h2
   simp only [putG, if_neg e]
   rw [putG_old h1]; rfl
theorem entsG_set {β : Type} {F : β → Value} (i : Nat) (kv : List (β × Value)) (j : Nat) (n : β) (v : Value) : entsG F i (kv.set j (n, v)) = (entsG F i kv).modify j fun e => { e with key := F n, val := v } := by
 apply List.ext_getElem?
 intro k
 rw [entsG_get, List.getElem?_set, List.getElem?_modify, entsG_get]
 by_cases h : j = k
 ·subst h
  simp only [if_true]
  by_cases hl : j < kv.length
  ·simp [hl]
  ·simp [hl]
 ·simp [h]
section
variable {P : Program} {kt : TypeId}
theorem findAsking_ents (heq : ∀ a b w, (Op.equal kt (F a) (F b)).run P w = .ok (decide (a = b)) w) (n : α) (w : World) : ∀ (i j : Nat) (kv : List (α × Value)), (Instr.findAsking kt (F n) (entsG F i kv) j).run P w = .ok ((lkG n kv).map fun x => (j + x.1, x.2)) w
 | _, _, [] => by simp [entsG, Instr.findAsking, lkG]
 | i, j, (m, v) :: r => by
  simp only [entsG, Instr.findAsking, Sem.run_bind, heq, Result.andThen_ok, lkG]
  by_cases h : n = m
  ·subst h; simp
  ·simp only [h, decide_false, if_false, Bool.false_eq_true]
   rw [findAsking_ents heq n w (i + 1) (j + 1) r]
   cases lkG n r with
   | none => simp
   | some x => simp; omega
theorem KeyT.ofWide (hwide : (match P.underlying kt with | some (.array _ _) | some (.struct _) => true | _ => false) = true)
  (heq : ∀ a b w, (Op.equal kt (F a) (F b)).run P w = .ok (decide (a = b)) w) (hch : ∀ e a w, (Instr.checkKey e 10000 kt (F a)).run P w = .ok () w) (hst : ∀ a, Instr.sameBits 10000 (F a) (F a) = true) : KeyT P kt F where
 find n kv w := by
  rw [run_findKey_eq w hwide, findAsking_ents heq n w 0 0 kv]
  cases lkG n kv <;> simp
 check := hch
 stays := hst
theorem findNow_entsG (k : IntKind) (n : Int) : ∀ (i j : Nat) (kv : List (Int × Value)), Instr.findNow (.int k) (.int k n) (entsG (fun n => .int k n) i kv) j = some ((lkG n kv).map fun x => (j + x.1, x.2))
 | _, _, [] => by simp [entsG, Instr.findNow, lkG]
 | i, j, (m, v) :: r => by
  simp only [entsG, Instr.findNow, Instr.sameNow, if_true, lkG]
  by_cases h : n = m
  ·subst h; simp
  ·have hb : (n == m) = false := by simpa using h
   rw [hb]
   simp only [h, if_false]
   rw [findNow_entsG k n (i + 1) (j + 1) r]
   cases lkG n r with
   | none => simp
   | some x => simp; omega
theorem KeyT.int {k : IntKind} (hk : P.underlying kt = some (.int k)) : KeyT P kt (fun n : Int => Value.int k n) where
 find n kv w := by
  simp only [Instr.findKey, Sem.run_bind, run_underlying hk, Result.andThen_ok, findNow_entsG, Sem.run_pure]
  cases lkG n kv <;> simp
 check e a w := run_checkKey_int hk e a
 stays a := by simp [Instr.sameBits]
theorem findKeyG (hK : KeyT P kt F) (n : α) (w : World) (kv : List (α × Value)) : (Instr.findKey kt (F n) (entsG F 0 kv)).run P w = .ok (lkG n kv) w := hK.find n kv w
theorem keyStaysG (hK : KeyT P kt F) (n : α) (w : World) : (Instr.keyThatStays (F n) (F n)).run P w = .ok (F n) w := by
 simp [Instr.keyThatStays, hK.stays]
variable {w : World}
theorem MapG.mod {β : Type} {F : β → Value} {fp : Nat → Prop} {w' : World} {b : Nat} {kv : List (β × Value)} (h : MapG F w b kv) (hm : Mod fp w w') (hf : ¬ fp b) : MapG F w' b kv := hm.get h hf
theorem MapG.same {β : Type} {F : β → Value} {w' : World} {b : Nat} {kv : List (β × Value)} (h : MapG F w b kv) (hm : Same w w') : MapG F w' b kv := hm.get h fun h => h
theorem run_mapUpdateG {t vt : TypeId} (ht : P.underlying t = some (.map kt vt)) (hK : KeyT P kt F) {b : Nat} {kv : List (α × Value)} (hm : MapG F w b kv) (n : α) (v : Value) :
  (Instr.mapUpdate t (.map (some b)) (F n) v).run P w = .ok () (World.setBlk w b (.map (entsG F 0 (putG n v kv)).toArray (putG n v kv).length)) := by
 have hh : w.heap[b]? = some (.map (entsG F 0 kv).toArray kv.length) := hm
 simp only [Instr.mapUpdate, Sem.run_bind, run_underlying ht, Result.andThen_ok, getObj, Sem.run, hh, Result.andThen, hK.check, findKeyG hK, Sem.run_pure, setObj]
 cases hl : lkG n kv with
 | none =>
  rw [putG_new hl, entsG_append]
  simp [World.setBlk, Sem.run, hh]
 | some x =>
  obtain ⟨i, u⟩ := x
  have hi := lkG_some hl
  have hget : (entsG F 0 kv).toArray[i]? = some { key := F n, val := u, born := 0 + i } := by
   rw [List.getElem?_toArray, entsG_get, hi]; rfl
  simp only [hget, Option.map_some, Option.getD_some, Sem.run_bind, keyStaysG hK, Result.andThen_ok]
  rw [putG_old hl, entsG_set]
  simp [World.setBlk, List.length_set, Sem.run, hh]
theorem kmapUpG {t vt : TypeId} (ht : P.underlying t = some (.map kt vt)) (hK : KeyT P kt F) {b : Nat} {kv : List (α × Value)} (hm : MapG F w b kv) {n : α} {v : Value} {K : Value → World → Prop}
  (h : ∀ w2, Mod (fun j => j = b) w w2 → w2.heap.size = w.heap.size → MapG F w2 b (putG n v kv) → K undef w2) : ksemU P (Instr.mapUpdate t (.map (some b)) (F n) v) w K := by
 rw [ksemU_ok (run_mapUpdateG ht hK hm n v)]
 refine h _ ((Mod.refl _ _).setBlk _ (.inl rfl)) (setBlk_size _ _ _) ?_
 unfold MapG
 rw [setBlk_heap, if_pos rfl, show blk w b = _ from hm]; rfl
end
end
end
end Go.Ev
namespace Go.Proofs.YtenokhokboicnaaGreatDoor
open Go Go.Ev
section
structure EK where
 i : Int
 g : Int
 hi : I64 i
 hg : I64 g
deriving instance DecidableEq for EK
def EK.v (x : EK) : Value := entV x.i x.g
theorem EK.ext {x y : EK} (h1 : x.i = y.i) (h2 : x.g = y.g) : x = y := by
 cases x; cases y; cases h1; cases h2; rfl
theorem wideEnt : (match Tryz.prog.underlying 176 with | some (.array _ _) | some (.struct _) => true | _ => false) = true := by rw [Tryz.underlying176]
theorem keyEK : KeyT Tryz.prog 176 EK.v := by
 refine KeyT.ofWide wideEnt (fun a b w => ?_) (fun e a w => ?_) (fun a => ?_)
 ·obtain ⟨r, hr, hiff⟩ := run_equalIn_deep (P := Tryz.prog) 9990 10 176 keyEnt w 2 2 a.v b.v _ _ (formEnt a.i a.g) (formEnt b.i b.g) (kl_ent a.hi a.hg 0) (kl_ent b.hi b.hg 0)
  have hr2 : r = decide (a = b) := by
   rw [Bool.eq_iff_iff, hiff, decide_eq_true_eq]
   constructor
   ·intro h
    simp at h
    exact EK.ext h.1 h.2
   ·rintro rfl; rfl
  rw [hr2] at hr
  exact hr
 ·exact run_checkKey_deep (P := Tryz.prog) e 9990 10 176 keyEnt w 2 a.v _ (formEnt a.i a.g) (kl_ent a.hi a.hg 0)
 ·simp [EK.v, entV, Instr.sameBits]
theorem keyInt : KeyT Tryz.prog 3 (fun n : Int => Value.int .i64 n) := KeyT.int Tryz.underlying3
end
section
def f67 (Q : PQ) (w : World) : Prop :=
 kmap w fun v1 w2 =>
 kmap w2 fun v3 w4 =>
 kbld [.map none, .map none, .slice none 0 0, .int .i64 0] [(0, 1, v1), (1, 1, v3), (3, 1, (.int .i64 1))] fun v5 =>
 knew (Value.cells v5) 250 w4 fun v6 w7 =>
 Q v6 w7
theorem f67_ok {Q : PQ} {w : World} (h : f67 Q w) : Meets Tryz.prog 67 #[] w Q :=
 sound' (c := Tryz.f67.body.get rfl) [] Tryz.func67 rfl rfl (args := []) rfl (by kernel_rfl) h
def f132 (x0 x1 x2 : Value) (Q : PQ) (w : World) : Prop :=
 knew (Value.cells x2) 176 w fun v1 w2 =>
 kN x0 <|
 kfld 2 x0 fun v3 =>
 kld v3 w2 fun v4 =>
 kcall Tryz.prog 187 #[v4, x1] w2 fun v5 w6 =>
 kext v5 0 fun v7 =>
 kext v5 1 fun v8 =>
 kN x0 <|
 kfld 2 x0 fun v9 =>
 kld v9 w6 fun v10 =>
 kbldS [.int .i64 0] 1 [(0, 1, x1)] 3 w6 fun v11 w12 =>
 kcall Tryz.prog 188 #[v10, v7, v11] w12 fun v13 w14 =>
 kN x0 <|
 kfld 2 x0 fun v15 =>
 kst 1 v15 v13 w14 fun w16 =>
 kN x0 <|
 kfld 0 x0 fun v17 =>
 kld v17 w16.drew fun v18 =>
 kG (w16.drew = w16.drew) <|
 kN x0 <|
 kfld 1 x0 fun v19 =>
 kld v19 w16.drew fun v20 =>
 kG (w16.drew = w16.drew) <|
 kldN 2 v1 w16.drew fun v21 =>
 kG (w16.drew = w16.drew) <|
 kldN 2 v1 w16.drew fun v22 =>
 kG (w16.drew = w16.drew) <|
 ksem Tryz.prog (Instr.mapEntry 247 v18 x1) w16.drew fun v23 w24 =>
 kG (kldN 2 v1 w24 fun v33 =>
 v33 = v22 ∧ w24 = w24) <|
 kG (kldN 2 v1 w24 fun v32 =>
 v32 = v21 ∧ w24 = w24) <|
 kext v23 1 fun v25 =>
 ksemU Tryz.prog (Instr.entryStore 247 v18 v25 v22) w24 fun _ w26 =>
 kG (kldN 2 v1 w26 fun v31 =>
 v31 = v21 ∧ w26 = w26) <|
 ksem Tryz.prog (Instr.mapEntry 248 v20 v21) w26 fun v27 w28 =>
 kext v27 1 fun v29 =>
 ksemU Tryz.prog (Instr.entryStore 248 v20 v29 x1) w28 fun _ w30 =>
 Q (.tuple #[]) w30
theorem f132_ok {x0 x1 x2 : Value} {Q : PQ} {w : World} (h : f132 x0 x1 x2 Q w) : Meets Tryz.prog 132 #[x0, x1, x2] w Q :=
 sound' (c := Tryz.f132.body.get rfl) [] Tryz.func132 rfl rfl (args := [x0, x1, x2]) rfl (by kernel_rfl) h
def f75_0 (x0 x3 : Value) (Q : PQ) (w : World) : Prop :=
 kN x0 <|
 kfld 3 x0 fun v22 =>
 kld v22 w fun v23 =>
 kN x0 <|
 kfld 3 x0 fun v24 =>
 kld v24 w fun v25 =>
 kint .i64 .add v25 (.int .i64 1) fun v26 =>
 kN x0 <|
 kfld 3 x0 fun v27 =>
 kst 1 v27 v26 w fun w28 =>
 kldN 2 x3 w28 fun v29 =>
 kcall Tryz.prog 132 #[x0, v23, v29] w28 fun v30 w31 =>
 Q (.tuple #[v23, .nilIface]) w31
def f75 (x0 x1 : Value) (Q : PQ) (w : World) : Prop :=
 knew (Value.cells x1) 176 w fun v1 w2 =>
 kldN 2 v1 w2 fun v3 =>
 kcall Tryz.prog 130 #[x0, v3] w2 fun v4 w5 =>
 kext v4 0 fun v6 =>
 kext v4 1 fun v7 =>
 keq Tryz.prog .eql 155 false true x0 (.pointer none) w5 fun v8 w9 =>
 kB v8 fun b34 => kIf b34
 (kld (.pointer (some ⟨4, 0, none⟩)) w9 fun v10 =>
 kcall Tryz.prog 131 #[v10] w9 fun v11 w12 =>
 Q (.tuple #[.int .i64 0, v11]) w12)
 (kB v7 fun b33 => kIf b33
 (kld (.pointer (some ⟨1, 0, none⟩)) w9 fun v13 =>
 kcall Tryz.prog 131 #[v13] w9 fun v14 w15 =>
 Q (.tuple #[.int .i64 0, v14]) w15)
 (kN x0 <|
 kfld 3 x0 fun v16 =>
 kld v16 w9 fun v17 =>
 kint .i64 .gtr v17 (.int .i64 1073741824) fun v18 =>
 kB v18 fun b32 => kIf b32
 (kld (.pointer (some ⟨7, 0, none⟩)) w9 fun v19 =>
 kcall Tryz.prog 131 #[v19] w9 fun v20 w21 =>
 Q (.tuple #[.int .i64 0, v20]) w21)
 (f75_0 x0 v1 Q w9)))
theorem f75_ok {x0 x1 : Value} {Q : PQ} {w : World} (h : f75 x0 x1 Q w) : Meets Tryz.prog 75 #[x0, x1] w Q :=
 sound' (c := Tryz.f75.body.get rfl) [] Tryz.func75 rfl rfl (args := [x0, x1]) rfl (by kernel_rfl) h
def f228_0 (x0 x1 x4 : Value) (Q : PQ) (w : World) : Prop :=
 kN x0 <|
 kfld 0 x0 fun v8 =>
 kld v8 w fun v9 =>
 ksem Tryz.prog (Instr.lookup 247 v9 x1 true) w fun v10 w11 =>
 kext v10 0 fun v12 =>
 kext v10 1 fun v13 =>
 knew #[.int .i64 0, .int .i64 0] 176 w11 fun v14 w15 =>
 kst 2 v14 v12 w15 fun w16 =>
 kldN 2 v14 w16 fun v17 =>
 kst 2 x4 v17 w16 fun w18 =>
 kldN 2 x4 w18 fun v19 =>
 Q (.tuple #[v19, v13]) w18
def f228 (x0 x1 : Value) (Q : PQ) (w : World) : Prop :=
 knew #[.int .i64 0, .int .i64 0] 176 w fun v1 w2 =>
 keq Tryz.prog .eql 155 false true x0 (.pointer none) w2 fun v3 w4 =>
 kB v3 fun b20 => kIf b20
 (kbld [.int .i64 0, .int .i64 0] [] fun v5 =>
 kst 2 v1 v5 w4 fun w6 =>
 kldN 2 v1 w6 fun v7 =>
 Q (.tuple #[v7, .bool false]) w6)
 (f228_0 x0 x1 v1 Q w4)
theorem f228_ok {x0 x1 : Value} {Q : PQ} {w : World} (h : f228 x0 x1 Q w) : Meets Tryz.prog 228 #[x0, x1] w Q :=
 sound' (c := Tryz.f228.body.get rfl) [] Tryz.func228 rfl rfl (args := [x0, x1]) rfl (by kernel_rfl) h
def f130_0 (x0 x3 : Value) (Q : PQ) (w : World) : Prop :=
 kN x0 <|
 kfld 1 x0 fun v5 =>
 kld v5 w.drew fun v6 =>
 kG (w.drew = w.drew) <|
 kldN 2 x3 w.drew fun v7 =>
 kG (w.drew = w.drew) <|
 ksem Tryz.prog (Instr.lookup 248 v6 v7 true) w.drew fun v8 w9 =>
 kG (w9 = w.drew) <|
 kext v8 0 fun v10 =>
 kext v8 1 fun v11 =>
 Q (.tuple #[v10, v11]) w9
def f130 (x0 x1 : Value) (Q : PQ) (w : World) : Prop :=
 knew (Value.cells x1) 176 w fun v1 w2 =>
 keq Tryz.prog .eql 155 false true x0 (.pointer none) w2 fun v3 w4 =>
 kB v3 fun b12 => kIf b12
 (Q (.tuple #[.int .i64 0, .bool false]) w4)
 (f130_0 x0 v1 Q w4)
theorem f130_ok {x0 x1 : Value} {Q : PQ} {w : World} (h : f130 x0 x1 Q w) : Meets Tryz.prog 130 #[x0, x1] w Q :=
 sound' (c := Tryz.f130.body.get rfl) [] Tryz.func130 rfl rfl (args := [x0, x1]) rfl (by kernel_rfl) h
def f74_0 (x0 : Value) (Q : PQ) (w : World) : Prop :=
 kN x0 <|
 kfld 3 x0 fun v3 =>
 kld v3 w fun v4 =>
 Q v4 w
def f74 (x0 : Value) (Q : PQ) (w : World) : Prop :=
 keq Tryz.prog .eql 155 false true x0 (.pointer none) w fun v1 w2 =>
 kB v1 fun b5 => kIf b5
 (Q (.int .i64 0) w2)
 (f74_0 x0 Q w2)
theorem f74_ok {x0 : Value} {Q : PQ} {w : World} (h : f74 x0 Q w) : Meets Tryz.prog 74 #[x0] w Q :=
 sound' (c := Tryz.f74.body.get rfl) [] Tryz.func74 rfl rfl (args := [x0]) rfl (by kernel_rfl) h
def f187_1 (x0 x1 x6 x7 x8 : Value) (J3 : Value → Value → World → Prop) (Q : PQ) (w : World) : Prop :=
 kint .i64 .add x7 x8 fun v4 =>
 kcnv .u64 v4 fun v5 =>
 kint .u64 .shr v5 (.int .u64 1) fun v6 =>
 kcnv .i64 v6 fun v7 =>
 kix (some (.slice 3)) (some 1) x0 v7 fun v8 =>
 kld v8 w fun v9 =>
 kcall Tryz.prog 219 #[v9, x1] w fun v10 w11 =>
 kB v10 fun b13 => kIf b13
 (kint .i64 .add v7 (.int .i64 1) fun v12 =>
 J3 v12 x8 w11)
 (J3 x7 v7 w11)
def f187_2 (x0 x1 x6 x7 : Value) (Q : PQ) (w : World) : Prop :=
 kint .i64 .lss x7 x6 fun v14 =>
 kB v14 fun b15 => kIf b15
 (kix (some (.slice 3)) (some 1) x0 x7 fun v16 =>
 kld v16 w fun v17 =>
 kint .i64 .eql v17 x1 fun v18 =>
 kB v18 fun b19 => kIf (!b19)
 (kix (some (.slice 3)) (some 1) x0 x7 fun v20 =>
 kld v20 w fun v21 =>
 kcall Tryz.prog 220 #[v21] w fun v22 w23 =>
 kB v22 fun b24 => kIf b24
 (kcall Tryz.prog 220 #[x1] w23 fun v25 w26 =>
 Q (.tuple #[x7, v25]) w26)
 (Q (.tuple #[x7, .bool false]) w23))
 (Q (.tuple #[x7, .bool true]) w))
 (Q (.tuple #[x7, .bool false]) w)
def f187_0 (x7 x8 x0 x1 x6 : Value) (J3 : Value → Value → World → Prop) (Q : PQ) (w : World) : Prop :=
 kint .i64 .lss x7 x8 fun v3 =>
 kB v3 fun b27 => kIf b27
 (f187_1 x0 x1 x6 x7 x8 J3 Q w)
 (f187_2 x0 x1 x6 x7 Q w)
def f187 (x0 x1 : Value) (Q : PQ) (w : World) : Prop :=
 klen x0 fun v1 =>
 kL fun (I : Value → Value → World → Prop) (μ : Value → Value → World → Nat) => I (.int .i64 0) v1 w ∧ ∀ (x7 x8 : Value) (w1 : World), I x7 x8 w1 →
 f187_0 x7 x8 x0 x1 v1 (fun y7 y8 w2 => I y7 y8 w2 ∧ μ y7 y8 w2 < μ x7 x8 w1) Q w1
theorem f187_ok {x0 x1 : Value} {Q : PQ} {w : World} (h : f187 x0 x1 Q w) : Meets Tryz.prog 187 #[x0, x1] w Q :=
 sound' (c := Tryz.f187.body.get rfl) [(3, [7, 8])] Tryz.func187 rfl rfl (args := [x0, x1]) rfl (by kernel_rfl) h
def f188_3 (x0 x1 x2 x7 x8 : Value) (Q : PQ) (w : World) : Prop :=
 ksl (some (.slice 3)) (some 1) x0 (some x8) none fun v42 =>
 ksem Tryz.prog (Builtin.copy_ #[57, 57] 0 #[v42, x2]) w fun v43 w44 =>
 ksl (some (.slice 3)) (some 1) x0 (some x1) none fun v45 =>
 kcall Tryz.prog 222 #[v45, x7] w44 fun v46 w47 =>
 Q x0 w47
def f188_2 (x0 x1 x2 x7 x8 : Value) (Q : PQ) (w : World) : Prop :=
 kint .i64 .add x8 x7 fun v27 =>
 ksl (some (.slice 3)) (some 1) x0 none (some v27) fun v28 =>
 kint .i64 .add x1 x7 fun v29 =>
 ksl (some (.slice 3)) (some 1) v28 (some v29) none fun v30 =>
 kextf Tryz.prog 221 [x2, v30] w fun v31 w32 =>
 kun .not (some .bool) v31 fun v33 =>
 kB v33 fun b48 => kIf b48
 (kint .i64 .add x1 x7 fun v34 =>
 ksl (some (.slice 3)) (some 1) v28 (some v34) none fun v35 =>
 ksl (some (.slice 3)) (some 1) v28 (some x1) none fun v36 =>
 ksem Tryz.prog (Builtin.copy_ #[57, 57] 0 #[v35, v36]) w32.drew fun v37 w38 =>
 ksl (some (.slice 3)) (some 1) v28 (some x1) none fun v39 =>
 ksem Tryz.prog (Builtin.copy_ #[57, 57] 0 #[v39, x2]) w38 fun v40 w41 =>
 Q v28 w41)
 (f188_3 v28 x1 x2 x7 x8 Q w32)
def f188_1 (x0 x1 x2 x7 x8 : Value) (Q : PQ) (w : World) : Prop :=
 kint .i64 .add x8 x7 fun v10 =>
 kcap x0 fun v11 =>
 kint .i64 .gtr v10 v11 fun v13 =>
 kB v13 fun b49 => kIf b49
 (ksl (some (.slice 3)) (some 1) x0 none (some x1) fun v14 =>
 kint .i64 .add x8 x7 fun v15 =>
 kint .i64 .sub v15 x1 fun v16 =>
 ksem Tryz.prog (Builtin.append_ #[57, 3] 0 #[v14, v16]) w fun v17 w18 =>
 ksl (some (.slice 3)) (some 1) v17 (some x1) none fun v19 =>
 ksem Tryz.prog (Builtin.copy_ #[57, 57] 0 #[v19, x2]) w18 fun v20 w21 =>
 kint .i64 .add x1 x7 fun v22 =>
 ksl (some (.slice 3)) (some 1) v17 (some v22) none fun v23 =>
 ksl (some (.slice 3)) (some 1) x0 (some x1) none fun v24 =>
 ksem Tryz.prog (Builtin.copy_ #[57, 57] 0 #[v23, v24]) w21.drew fun v25 w26 =>
 Q v17 w26)
 (f188_2 x0 x1 x2 x7 x8 Q w)
def f188_0 (x0 x1 x2 x7 : Value) (Q : PQ) (w : World) : Prop :=
 klen x0 fun v5 =>
 kint .i64 .eql x1 v5 fun v7 =>
 kB v7 fun b50 => kIf b50
 (ksem Tryz.prog (Builtin.append_ #[57, 57] 0 #[x0, x2]) w fun v8 w9 =>
 Q v8 w9)
 (f188_1 x0 x1 x2 x7 v5 Q w)
def f188 (x0 x1 x2 : Value) (Q : PQ) (w : World) : Prop :=
 ksl (some (.slice 3)) (some 1) x0 (some x1) none fun v1 =>
 klen x2 fun v2 =>
 kint .i64 .eql v2 (.int .i64 0) fun v4 =>
 kB v4 fun b51 => kIf b51
 (Q x0 w)
 (f188_0 x0 x1 x2 v2 Q w)
theorem f188_ok {x0 x1 x2 : Value} {Q : PQ} {w : World} (h : f188 x0 x1 x2 Q w) : Meets Tryz.prog 188 #[x0, x1, x2] w Q :=
 sound' (c := Tryz.f188.body.get rfl) [] Tryz.func188 rfl rfl (args := [x0, x1, x2]) rfl (by kernel_rfl) h
def f220 (x0 : Value) (Q : PQ) (w : World) : Prop :=
 kint .i64 .neq x0 x0 fun v1 =>
 Q v1 w
theorem f220_ok {x0 : Value} {Q : PQ} {w : World} (h : f220 x0 Q w) : Meets Tryz.prog 220 #[x0] w Q :=
 sound' (c := Tryz.f220.body.get rfl) [] Tryz.func220 rfl rfl (args := [x0]) rfl (by kernel_rfl) h
def f46_0 (x0 : Value) (Q : PQ) (w : World) : Prop :=
 kbldS [.int .i64 0] 0 [] 3 w fun v3 w4 =>
 ksem Tryz.prog (Builtin.append_ #[57, 57] 0 #[v3, x0]) w4 fun v5 w6 =>
 Q v5 w6
def f46 (x0 : Value) (Q : PQ) (w : World) : Prop :=
 keq Tryz.prog .eql 57 false true x0 (.slice none 0 0) w fun v1 w2 =>
 kB v1 fun b7 => kIf b7
 (Q (.slice none 0 0) w2)
 (f46_0 x0 Q w2)
theorem f46_ok {x0 : Value} {Q : PQ} {w : World} (h : f46 x0 Q w) : Meets Tryz.prog 46 #[x0] w Q :=
 sound' (c := Tryz.f46.body.get rfl) [] Tryz.func46 rfl rfl (args := [x0]) rfl (by kernel_rfl) h
def f219 (x0 x1 : Value) (Q : PQ) (w : World) : Prop :=
 kcall Tryz.prog 241 #[x0] w fun v1 w2 =>
 kB v1 fun b3 => kIf b3
 (kcall Tryz.prog 241 #[x1] w2 fun v4 w5 =>
 kun .not (some .bool) v4 fun v6 =>
 kB v6 fun b7 => kIf (!b7)
 (kint .i64 .lss x0 x1 fun v8 =>
 Q v8 w5)
 (Q (.bool true) w5))
 (kint .i64 .lss x0 x1 fun v9 =>
 Q v9 w2)
theorem f219_ok {x0 x1 : Value} {Q : PQ} {w : World} (h : f219 x0 x1 Q w) : Meets Tryz.prog 219 #[x0, x1] w Q :=
 sound' (c := Tryz.f219.body.get rfl) [] Tryz.func219 rfl rfl (args := [x0, x1]) rfl (by kernel_rfl) h
end
section
attribute [local irreducible] kO kB kStr kInt kN kG kIf kfld kld kldN kst knew kmap kbld kbldS kext kcnv klenStr klen kcap kprt kprtN kbool kint kstr keq kun ksl kix kiv kta kmk kmm ksem ksemU kextf kcallV kcallM kcall kL
def intF (n : Int) : Value := .int .i64 n
theorem ptBad : isPtrT Tryz.prog 155 = true := by kernel_rfl
theorem zEnt0 : zeroO Tryz.prog 176 = some (entV 0 0) := by kernel_rfl
theorem zInt0 : zeroO Tryz.prog 3 = some (.int .i64 0) := by kernel_rfl
theorem less_spec (x y : Int) (w : World) : Meets Tryz.prog 219 #[.int .i64 x, .int .i64 y] w fun v w' => v = .bool (decide (x < y)) ∧ w' = w := by
 refine f219_ok ?_
 unfold f219
 refine kcall_of (isNaN_spec x w) ?_
 rintro v w' ⟨rfl, rfl⟩
 refine kB_at ?_
 refine kIf_F rfl ?_
 refine lss_at ?_
 exact ⟨rfl, rfl⟩
theorem apNums : appT Tryz.prog 57 1 8 = true := by kernel_rfl
theorem slNums_is : ∃ e, Tryz.prog.underlying 57 = some (.slice e) := slT_of (by kernel_rfl)
theorem insert_end {w : World} {sv : Value} {vs : List Value} (hO : Own w sv 1 vs) (hn : vs.length ≤ 1000) {bb : Nat} {x : Int} {t : TypeId} (hb : blk w bb = some (.cells #[.int .i64 x] t)) :
  Meets Tryz.prog 188 #[sv, natV vs.length, .slice (some ⟨bb, 0, none⟩) 1 1] w fun v w' => Own w' v 1 (vs ++ [.int .i64 x]) ∧ Mod (vblk sv) w w' ∧ ∀ k, vblk v k → vblk sv k ∨ w.heap.size ≤ k := by
 have hO' := hO
 obtain ⟨a, n, c, rfl, h1, h2, h3, h4⟩ := hO
 have h1 : n = vs.length := by omega
 subst h1
 rw [natV]
 refine f188_ok ?_
 unfold f188
 rw [ksl_slice rfl rfl]
 refine kG_of (by simp only [loV_int, hiV_none]; omega) ?_
 refine klen_at ?_
 refine eql_at ?_
 rw [decF (by omega)]
 refine kB_at ?_
 refine kIf_F rfl ?_
 unfold f188_0
 refine klen_at ?_
 refine eql_at ?_
 rw [decT rfl]
 refine kB_at ?_
 refine kIf_T rfl ?_
 refine ksem_append apNums (by omega) hO' (Src.ofSlIs (hk := slNums_is.choose_spec) 1 (SlIs.blk hb rfl) rfl) (by simp; omega) (by simp; omega) ?_
 intro v' w' ho hm hf
 exact ⟨ho, hm, hf⟩
theorem own_cells {w : World} {v : Value} {sz : Nat} {vs : List Value} (h : Own w v sz vs) {b : Nat} (hb : vblk v b) : ∃ arr t, blk w b = some (.cells arr t) := by
 obtain ⟨a, n, c, rfl, h1, h2, h3, h4⟩ := h
 obtain ⟨o, n', c', e⟩ := hb
 cases e
 rcases h4 with ⟨h4, _⟩ | ⟨b', arr, t, e, hb, _⟩
 ·cases h4
 ·cases e; exact ⟨arr, t, hb⟩
theorem keyInt' : KeyT Tryz.prog 3 intF := keyInt
theorem isNaNs_spec (x : Int) (w : World) : Meets Tryz.prog 220 #[.int .i64 x] w fun v w' => v = .bool false ∧ w' = w := by
 refine f220_ok ?_
 unfold f220
 refine neq_at ?_
 rw [decF (by simp)]
 exact ⟨rfl, rfl⟩
end
end Go.Proofs.YtenokhokboicnaaGreatDoor
namespace Go.Ev
open Go Go.RowKit
section
theorem findNow_congr (kind : TypeDesc) (k : Value) : ∀ (es es' : List MapEntry) (j : Nat), es.map (fun e => (e.key, e.val)) = es'.map (fun e => (e.key, e.val)) → Instr.findNow kind k es j = Instr.findNow kind k es' j
 | [], [], _, _ => rfl
 | [], _ :: _, _, h => by cases h
 | _ :: _, [], _, h => by cases h
 | e :: es, e' :: es', j, h => by
  simp only [List.map_cons, List.cons.injEq, Prod.mk.injEq] at h
  simp only [Instr.findNow, h.1.1, h.1.2, findNow_congr kind k es es' (j + 1) h.2]
theorem findAsking_congr (t : TypeId) (k : Value) : ∀ (es es' : List MapEntry) (j : Nat), es.map (fun e => (e.key, e.val)) = es'.map (fun e => (e.key, e.val)) → Instr.findAsking t k es j = Instr.findAsking t k es' j
 | [], [], _, _ => rfl
 | [], _ :: _, _, h => by cases h
 | _ :: _, [], _, h => by cases h
 | e :: es, e' :: es', j, h => by
  simp only [List.map_cons, List.cons.injEq, Prod.mk.injEq] at h
  simp only [Instr.findAsking, h.1.1, h.1.2, findAsking_congr t k es es' (j + 1) h.2]
theorem findKey_congr (t : TypeId) (k : Value) (es es' : List MapEntry) (h : es.map (fun e => (e.key, e.val)) = es'.map (fun e => (e.key, e.val))) : Instr.findKey t k es = Instr.findKey t k es' := by
 unfold Instr.findKey
 simp only [fun kind => findNow_congr kind k es es' 0 h, findAsking_congr t k es es' 0 h]
theorem entsG_kv {β : Type} {F : β → Value} : ∀ (i : Nat) (kv : List (β × Value)), (entsG F i kv).map (fun e => (e.key, e.val)) = kv.map fun x => (F x.1, x.2)
 | _, [] => rfl
 | i, (n, v) :: r => by simp [entsG, entsG_kv (i + 1) r]
structure EntsE {β : Type} (F : β → Value) (es : List MapEntry) (cl : Nat) (kv : List (β × Value)) : Prop where
 kv : es.map (fun e => (e.key, e.val)) = kv.map fun x => (F x.1, x.2)
 nd : (es.map (·.born)).Nodup
 lt : ∀ e ∈ es, e.born < cl
theorem EntsE.len {β : Type} {F : β → Value} {es : List MapEntry} {cl : Nat} {kv : List (β × Value)} (h : EntsE F es cl kv) : es.length = kv.length := by
 have := congrArg List.length h.kv
 simpa using this
theorem EntsE.get {β : Type} {F : β → Value} {es : List MapEntry} {cl : Nat} {kv : List (β × Value)} (h : EntsE F es cl kv) {i : Nat} {n : β} {v : Value} (hi : kv[i]? = some (n, v)) : ∃ bn, es[i]? = some { key := F n, val := v, born := bn } := by
 have h1 := congrArg (fun l : List (Value × Value) => l[i]?) h.kv
 simp only [List.getElem?_map, hi, Option.map_some] at h1
 cases he : es[i]? with
 | none => rw [he] at h1; cases h1
 | some e =>
  rw [he] at h1
  simp only [Option.map_some, Option.some.injEq, Prod.mk.injEq] at h1
  refine ⟨e.born, ?_⟩
  cases e
  simp only at h1
  rw [h1.1, h1.2]
def MapV {β : Type} [DecidableEq β] (F : β → Value) (w : World) (b : Nat) (f : β → Option Value) : Prop :=
 ∃ es cl kv, Ev.blk w b = some (.map (List.toArray es) cl) ∧ EntsE F es cl kv ∧ (kv.map (·.1)).Nodup ∧ ∀ n, valG n kv = f n
theorem MapV.mod {β : Type} [DecidableEq β] {F : β → Value} {w : World} {b : Nat} {f : β → Option Value} {fp : Nat → Prop} {w' : World} (h : MapV F w b f) (hm : Mod fp w w') (hf : ¬ fp b) : MapV F w' b f := by
 obtain ⟨es, cl, kv, h1, h2⟩ := h
 exact ⟨es, cl, kv, hm.get h1 hf, h2⟩
theorem MapV.same {β : Type} [DecidableEq β] {F : β → Value} {w : World} {b : Nat} {f : β → Option Value} {w' : World} (h : MapV F w b f) (hm : Same w w') : MapV F w' b f := h.mod hm fun h => h
theorem MapV.lt {β : Type} [DecidableEq β] {F : β → Value} {w : World} {b : Nat} {f : β → Option Value} (h : MapV F w b f) : b < w.heap.size := by
 obtain ⟨es, cl, kv, h1, h2⟩ := h
 exact lt_of_blk h1
theorem MapV.cells {β : Type} [DecidableEq β] {F : β → Value} {w : World} {b : Nat} {f : β → Option Value} (h : MapV F w b f) {cs : Array Value} {t : TypeId} {z : Nat × Nat} (hb : Ev.blk w b = some (.cells cs t z)) : False := by
 obtain ⟨es, cl, kv, h1, h2⟩ := h
 rw [hb] at h1; cases h1
theorem MapV.new {β : Type} [DecidableEq β] {F : β → Value} {w : World} {b : Nat} (h : Ev.blk w b = some (.map #[] 0)) : MapV F w b fun _ => none :=
 ⟨[], 0, [], h, ⟨rfl, List.nodup_nil, fun e he => by cases he⟩, List.nodup_nil, fun n => rfl⟩
section
variable {P : Program} {kt : TypeId}
theorem findKeyE {α : Type} [DecidableEq α] {F : α → Value} (hK : KeyT P kt F) (n : α) (w : World) {es : List MapEntry} {cl : Nat} {kv : List (α × Value)} (h : EntsE F es cl kv) : (Instr.findKey kt (F n) es).run P w = .ok (lkG n kv) w := by
 rw [findKey_congr kt (F n) es (entsG F 0 kv) (by rw [h.kv, entsG_kv])]
 exact hK.find n kv w
theorem run_lookupV {α : Type} [DecidableEq α] {F : α → Value} {w : World} {t vt : TypeId} {z : Value} (ht : P.underlying t = some (.map kt vt)) (hK : KeyT P kt F) (hz : zeroO P vt = some z) {b : Nat} {f : α → Option Value} (hm : MapV F w b f) (n : α) (ok : Bool) :
  (Instr.lookup t (.map (some b)) (F n) ok).run P w = .ok (match f n with | some v => if ok then .tuple #[v, .bool true] else v | none => if ok then .tuple #[z, .bool false] else z) w := by
 obtain ⟨es, cl, kv, hb, he, _, hf⟩ := hm
 have hh : w.heap[b]? = some (.map es.toArray cl) := hb
 rw [← hf]
 simp only [Instr.lookup, Sem.run_bind, run_underlying ht, getObj, Sem.run, hh, Result.andThen, hK.check, findKeyE hK n w he, Sem.run_pure, valG]
 cases lkG n kv with
 | none => cases ok <;> simp [Sem.run, run_zero' hz]
 | some x => cases ok <;> simp [Sem.run]
theorem klookOkV {α : Type} [DecidableEq α] {F : α → Value} {w : World} {t vt : TypeId} {z : Value} (ht : P.underlying t = some (.map kt vt)) (hK : KeyT P kt F) (hz : zeroO P vt = some z) {b : Nat} {f : α → Option Value} (hm : MapV F w b f) (n : α) {K : Value → World → Prop}
  (h : K (.tuple #[(f n).getD z, .bool (f n).isSome]) w) : ksem P (Instr.lookup t (.map (some b)) (F n) true) w K := by
 rw [ksem_ok (run_lookupV ht hK hz hm n true)]
 cases hv : f n with
 | none => rw [hv] at h; exact h
 | some x => rw [hv] at h; exact h
def MapP {α : Type} [DecidableEq α] (F : α → Value) (w : World) (b : Nat) (f : α → Option Value) (n : α) (s : Nat) : Prop :=
 ∃ (es : List MapEntry) (cl : Nat) (kv : List (α × Value)) (j : Nat), Ev.blk w b = some (.map (List.toArray es) cl) ∧ EntsE F es cl kv ∧ (kv.map (·.1)).Nodup ∧ (∀ m, m ≠ n → valG m kv = f m) ∧ (∃ u, kv[j]? = some (n, u)) ∧ (es[j]?).map (fun e : MapEntry => e.born) = some s
theorem modify_key_id {es : List MapEntry} {i : Nat} {k v : Value} {bn : Nat} (h : es[i]? = some { key := k, val := v, born := bn }) : (es.modify i fun e => { e with key := k }) = es := by
 apply List.ext_getElem?
 intro j
 rw [List.getElem?_modify]
 by_cases hj : i = j
 ·subst hj
  rw [h]
  simp
 ·simp [hj]
theorem kmapEntryV {α : Type} [DecidableEq α] {F : α → Value} {w : World} {t vt : TypeId} {z : Value} (ht : P.underlying t = some (.map kt vt)) (hK : KeyT P kt F) (hz : zeroO P vt = some z) {b : Nat} {f : α → Option Value} (hm : MapV F w b f) (n : α) {K : Value → World → Prop}
  (h : ∀ w2 s, Mod (fun j => j = b) w w2 → w2.heap.size = w.heap.size → MapP F w2 b f n s → K (.tuple #[(f n).getD z, .int .i64 (s : Nat)]) w2) : ksem P (Instr.mapEntry t (.map (some b)) (F n)) w K := by
 obtain ⟨es, cl, kv, hb, he, hnd, hf⟩ := hm
 have hh : w.heap[b]? = some (.map es.toArray cl) := hb
 cases hl : lkG n kv with
 | none =>
  have hr : (Instr.mapEntry t (.map (some b)) (F n)).run P w = .ok (.tuple #[z, .int .i64 cl]) (World.setBlk w b (.map (es ++ [({ key := F n, val := z, born := cl } : MapEntry)]).toArray (cl + 1))) := by
   simp only [Instr.mapEntry, Sem.run_bind, run_underlying ht, getObj, Sem.run, hh, Result.andThen, hK.check, findKeyE hK n w he, Sem.run_pure, setObj, hl]
   simp [World.setBlk, Sem.run, hh, run_zero' hz, goInt]
  rw [ksem_ok hr]
  have hfn : f n = none := by rw [← hf]; unfold valG; rw [hl]; rfl
  have := h (World.setBlk w b (.map (es ++ [({ key := F n, val := z, born := cl } : MapEntry)]).toArray (cl + 1))) cl ((Mod.refl _ _).setBlk _ (.inl rfl)) (setBlk_size _ _ _)
   ⟨es ++ [({ key := F n, val := z, born := cl } : MapEntry)], cl + 1, kv ++ [(n, z)], es.length, by rw [setBlk_heap, if_pos rfl, hb]; rfl, ⟨by rw [List.map_append, List.map_append, he.kv]; rfl, ?_, fun e hmem => ?_⟩, ?_, fun m hmn => ?_, ⟨z, by rw [he.len]; simp⟩, by simp⟩
  ·rw [hfn] at this; exact this
  ·rw [List.map_append]
   refine List.nodup_append.2 ⟨he.nd, by simp, fun x hx y hy e => ?_⟩
   obtain ⟨e1, h1, rfl⟩ := List.mem_map.1 hx
   have := he.lt _ h1
   simp at hy
   omega
  ·rcases List.mem_append.1 hmem with h1 | h1
   ·have := he.lt _ h1; omega
   ·have : e = { key := F n, val := z, born := cl } := by simpa using h1
    rw [this]; simp
  ·rw [← putG_new hl]
   exact putG_nodup hnd
  ·rw [← putG_new hl, valG_put, if_neg hmn]
   exact hf m
 | some x =>
  obtain ⟨i, u⟩ := x
  have hi := lkG_some hl
  obtain ⟨bn, hg⟩ := he.get hi
  have hr : (Instr.mapEntry t (.map (some b)) (F n)).run P w = .ok (.tuple #[u, .int .i64 bn]) (World.setBlk w b (.map es.toArray cl)) := by
   have hget : es.toArray[i]? = some { key := F n, val := u, born := bn } := by rw [List.getElem?_toArray]; exact hg
   simp only [Instr.mapEntry, Sem.run_bind, run_underlying ht, getObj, Sem.run, hh, Result.andThen, hK.check, findKeyE hK n w he, Sem.run_pure, setObj, hl, hget, Option.map_some, Option.getD_some, keyStaysG hK]
   have e1 := modify_key_id hg
   simp [World.setBlk, Sem.run, hh, goInt, e1]
  rw [ksem_ok hr]
  have hfn : f n = some u := by rw [← hf]; unfold valG; rw [hl]; rfl
  have := h (World.setBlk w b (.map es.toArray cl)) bn ((Mod.refl _ _).setBlk _ (.inl rfl)) (setBlk_size _ _ _)
   ⟨es, cl, kv, i, by rw [setBlk_heap, if_pos rfl, hb]; rfl, he, hnd, fun m _ => hf m, ⟨u, hi⟩, by rw [hg]; rfl⟩
  rw [hfn] at this
  exact this
theorem born_idx {es : List MapEntry} (hnd : (es.map (·.born)).Nodup) {j s : Nat} (hj : (es[j]?).map (·.born) = some s) : es.findIdx? (fun e => (e.born : Int) == (s : Int)) = some j := by
 obtain ⟨e, he, rfl⟩ := Option.map_eq_some_iff.1 hj
 obtain ⟨hjl, hje⟩ := List.getElem?_eq_some_iff.1 he
 rw [List.findIdx?_eq_some_iff_getElem]
 refine ⟨hjl, by rw [hje]; simp, fun i hi => ?_⟩
 simp only [Bool.not_eq_true, beq_eq_false_iff_ne, ne_eq]
 intro e2
 have h1 : (es.map (·.born))[i]? = some e.born := by rw [List.getElem?_map, List.getElem?_eq_getElem (by omega)]; simp; omega
 have h2 : (es.map (·.born))[j]? = some e.born := by rw [List.getElem?_map, he]; rfl
 have hil : i < (es.map (·.born)).length := by simp; omega
 have := (List.getElem?_inj hil hnd).1 (h1.trans h2.symm)
 omega
theorem kentryStoreV {α : Type} [DecidableEq α] {F : α → Value} {w : World} {t : TypeId} {b : Nat} {f : α → Option Value} {n : α} {s : Nat} (hm : MapP F w b f n s) {v : Value} {K : Value → World → Prop}
  (h : ∀ w2, Mod (fun j => j = b) w w2 → w2.heap.size = w.heap.size → MapV F w2 b (fun m => if m = n then some v else f m) → K undef w2) : ksemU P (Instr.entryStore t (.map (some b)) (.int .i64 s) v) w K := by
 obtain ⟨es, cl, kv, j, hb, he, hnd, hf, ⟨u, hj⟩, hs⟩ := hm
 have hh : w.heap[b]? = some (.map es.toArray cl) := hb
 have hfi := born_idx he.nd hs
 have hr : (Instr.entryStore t (.map (some b)) (.int .i64 s) v).run P w = .ok () (World.setBlk w b (.map (es.modify j fun e => { e with val := v }).toArray cl)) := by
  simp only [Instr.entryStore, Sem.run_bind, getObj, Sem.run, hh, Result.andThen, Sem.run_pure, setObj, asInt]
  simp [World.setBlk, Sem.run, hh, asIntOf, hfi]
 rw [ksemU_ok hr]
 obtain ⟨bn, hg⟩ := he.get hj
 have hjl := (List.getElem?_eq_some_iff.1 hj).1
 refine h _ ((Mod.refl _ _).setBlk _ (.inl rfl)) (setBlk_size _ _ _) ⟨_, cl, kv.set j (n, v), by rw [setBlk_heap, if_pos rfl, hb]; rfl, ⟨?_, ?_, fun e hmem => ?_⟩, ?_, fun m => ?_⟩
 ·apply List.ext_getElem?
  intro k
  have hk := congrArg (fun l : List (Value × Value) => l[k]?) he.kv
  simp only [List.getElem?_map] at hk
  rw [List.getElem?_map, List.getElem?_map, List.getElem?_modify, List.getElem?_set]
  by_cases hjk : j = k
  ·subst hjk
   simp [hg, hjl]
  ·simp only [hjk, if_false, id_eq]
   simpa using hk
 ·have : (es.modify j fun e => { e with val := v }).map (·.born) = es.map (·.born) := by
   apply List.ext_getElem?
   intro k
   rw [List.getElem?_map, List.getElem?_map, List.getElem?_modify]
   by_cases hjk : j = k
   ·subst hjk; simp [hg]
   ·simp [hjk]
  rw [this]; exact he.nd
 ·obtain ⟨k, hk⟩ := List.mem_iff_getElem?.1 hmem
  rw [List.getElem?_modify] at hk
  by_cases hjk : j = k
  ·subst hjk
   rw [hg] at hk
   simp at hk
   rw [← hk]
   show bn < cl
   have := he.lt _ (List.mem_of_getElem? hg)
   exact this
  ·simp only [hjk, if_false] at hk
   exact he.lt _ (List.mem_of_getElem? (by simpa using hk))
 ·have : (kv.set j (n, v)).map (·.1) = kv.map (·.1) := by
   apply List.ext_getElem?
   intro k
   rw [List.getElem?_map, List.getElem?_map, List.getElem?_set]
   by_cases hjk : j = k
   ·subst hjk
    rw [if_pos rfl, if_pos hjl, hj]; rfl
   ·simp [hjk]
  rw [this]; exact hnd
 ·have hl : ∃ y, lkG n kv = some (j, y) := by
   cases hl : lkG n kv with
   | none => exact absurd (List.mem_map.2 ⟨_, List.mem_of_getElem? hj, rfl⟩) (lkG_none.1 hl)
   | some x =>
    obtain ⟨i, y⟩ := x
    have hi := lkG_some hl
    have hil := (List.getElem?_eq_some_iff.1 hi).1
    have h1 : (kv.map (·.1))[i]? = some n := by rw [List.getElem?_map, hi]; rfl
    have h2 : (kv.map (·.1))[j]? = some n := by rw [List.getElem?_map, hj]; rfl
    have := (List.getElem?_inj (by simpa using hil) hnd).1 (h1.trans h2.symm)
    subst this
    exact ⟨y, rfl⟩
  obtain ⟨y, hl⟩ := hl
  show valG m (kv.set j (n, v)) = if m = n then some v else f m
  rw [← putG_old hl, valG_put]
  by_cases hmn : m = n
  ·rw [if_pos hmn, if_pos hmn]
  ·rw [if_neg hmn, if_neg hmn]; exact hf m hmn
end
end
end Go.Ev
namespace Go.Proofs.YtenokhokboicnaaGreatDoor
open Go Go.Ev
section
attribute [local irreducible] kO kB kStr kInt kN kG kIf kfld kld kldN kst knew kmap kbld kbldS kext kcnv klenStr klen kcap kprt kprtN kbool kint kstr keq kun ksl kix kiv kta kmk kmm ksem ksemU kextf kcallV kcallM kcall kL
theorem asc_get {l : List Int} (h : l.Pairwise (fun x y => x < y)) {i j : Nat} (hij : i < j) (hj : j < l.length) : l[i] < l[j] := (List.pairwise_iff_getElem.1 h) i j (by omega) hj hij
theorem bsearchG {w : World} {a : Option Addr} {c : Nat} {l : List Int} (hn : l.length ≤ 1000000) (hs : SlIs w a l.length 1 (l.map nV)) (hl : l.Pairwise (fun x y => x < y)) (x : Int) :
  Meets Tryz.prog 187 #[.slice a l.length c, .int .i64 x] w fun v w' => Same w w' ∧ ∃ k : Nat, k ≤ l.length ∧ (∀ i (hi : i < l.length), i < k → l[i] < x) ∧ (∀ i (hi : i < l.length), k ≤ i → x ≤ l[i]) ∧ v = .tuple #[.int .i64 k, .bool (decide (x ∈ l))] := by
 refine f187_ok ?_
 unfold f187
 refine klen_at ?_
 refine kL2_of l.length (fun r p q wr => ∃ i j : Nat, j - i + r ≤ l.length ∧ i ≤ j ∧ j ≤ l.length ∧ (∀ m (hm : m < l.length), m < i → l[m] < x) ∧ (∀ m (hm : m < l.length), j ≤ m → x ≤ l[m]) ∧ p = .int .i64 i ∧ q = .int .i64 j ∧ Same w wr) ⟨lI2_0 ⟨0, l.length, by omega, by omega, by omega, fun m _ h => by omega, fun m hm h => by omega, rfl, rfl, Mod.refl _ _⟩, fun p q wr hp => ?_⟩
 obtain ⟨r, hr, ⟨i, j, hj, hij, hjl, hlo, hhi, rfl, rfl, hm⟩, hJ⟩ := lI2_step hp
 unfold f187_0
 refine lss_at ?_
 refine kB_at ?_
 refine kIf_dec (fun hlt => ?_) (fun hge => ?_)
 ·have hlt : i < j := by omega
  unfold f187_1
  refine add_at (by omega) (by omega) ?_
  rw [kcnv_int, wrap_u64 (by omega) (by omega), kint_shr]
  refine kG_of (by omega) ?_
  have e2 : ishr .u64 ((i : Int) + (j : Int)) 1 = (((i + j) / 2 : Nat) : Int) := by
   have := shr_nat (k := .u64) (i + j) 1 (by decide)
   rw [show ((i + j : Nat) : Int) = (i : Int) + (j : Int) by omega] at this
   exact this
  rw [e2, kcnv_int, wrap_i64 (by omega) (by omega)]
  have hh1 : (i + j) / 2 < j := by omega
  have hh2 : i ≤ (i + j) / 2 := by omega
  generalize (i + j) / 2 = h at *
  have hhl : h < l.length := by omega
  refine kixld_of (F := nV) (l := l) (c := c) (hs.same hm) hhl rfl ?_
  rw [nV]
  refine kcall_of (less_spec _ _ _) ?_
  rintro v w' ⟨rfl, rfl⟩
  refine kB_at ?_
  refine kIf_dec (fun hc => ?_) (fun hc => ?_)
  ·refine add_at (by omega) (by omega) ?_
   rw [show (h : Int) + 1 = ((h + 1 : Nat) : Int) by omega]
   refine hJ _ _ _ (by omega) ⟨h + 1, j, by omega, by omega, hjl, fun m hml hmh => ?_, hhi, rfl, rfl, hm⟩
   by_cases he : m = h
   ·subst he; exact hc
   ·have := asc_get hl (show m < h by omega) hhl
    omega
  ·refine hJ _ _ _ (by omega) ⟨i, h, by omega, hh2, by omega, hlo, fun m hml hmh => ?_, rfl, rfl, hm⟩
   by_cases he : m = h
   ·subst he; omega
   ·have := asc_get hl (show h < m by omega) hml
    omega
 ·have : i = j := by omega
  subst this
  unfold f187_2
  refine lss_at ?_
  refine kB_at ?_
  refine kIf_dec (fun hlt => ?_) (fun hge => ?_)
  ·have hil : i < l.length := by omega
   have hxi := hhi i hil (Nat.le_refl _)
   refine kixld_of (F := nV) (l := l) (c := c) (hs.same hm) hil rfl ?_
   rw [nV]
   refine eql_at ?_
   refine kB_at ?_
   by_cases he : l[i] = x
   ·rw [decT he]
    refine kIf_F rfl ?_
    refine ⟨hm, i, hjl, hlo, hhi, ?_⟩
    rw [decT (he ▸ List.getElem_mem hil)]
   ·rw [decF he]
    refine kIf_T rfl ?_
    refine kixld_of (F := nV) (l := l) (c := c) (hs.same hm) hil rfl ?_
    rw [nV]
    refine kcall_of (isNaNs_spec _ _) ?_
    rintro v w' ⟨rfl, rfl⟩
    refine kB_at ?_
    refine kIf_F rfl ?_
    refine ⟨hm, i, hjl, hlo, hhi, ?_⟩
    have hx : x ∉ l := fun hmem => by
     obtain ⟨m, hml, e⟩ := List.mem_iff_getElem.1 hmem
     rcases Nat.lt_trichotomy m i with h | h | h
     ·have := hlo m hml h; omega
     ·subst h; exact he e
     ·have := asc_get hl h hml; omega
    rw [decF hx]
  ·refine ⟨hm, i, hjl, hlo, hhi, ?_⟩
   have hx : x ∉ l := fun hmem => by
    obtain ⟨m, hml, e⟩ := List.mem_iff_getElem.1 hmem
    have := hlo m hml (by omega)
    omega
   rw [decF hx]
structure BdM where
 l : List (Nat × EK)
 nx : Nat
def BdM.own (B : BdM) (n : Int) : Option Value := (B.l.find? fun x => decide (((x.1 : Nat) : Int) = n)).map fun x => x.2.v
def BdM.ids (B : BdM) (e : EK) : Option Value := (B.l.find? fun x => decide (x.2 = e)).map fun x => natV x.1
def BdM.nums (B : BdM) : List Int := B.l.map fun x => ((x.1 : Nat) : Int)
structure BdM.WF (B : BdM) : Prop where
 asc : (B.l.map (·.1)).Pairwise (fun x y => x < y)
 lt : ∀ x ∈ B.l, 1 ≤ x.1 ∧ x.1 < B.nx
 nd : (B.l.map (·.2)).Nodup
 pos : 1 ≤ B.nx
theorem BdM.WF.ascI {B : BdM} (h : B.WF) : B.nums.Pairwise (fun x y => x < y) := by
 have := h.asc
 unfold BdM.nums
 rw [List.pairwise_map] at this ⊢
 exact this.imp fun h => by omega
structure BdQ (U : Nat → Prop) (w : World) (b : Nat) (B : BdM) (bo bi : Nat) (sv : Value) : Prop where
 here : blk w b = some (.cells #[.map (some bo), .map (some bi), sv, natV B.nx] 250)
 own : MapV intF w bo B.own
 ids : MapV EK.v w bi B.ids
 nums : Own w sv 1 (B.nums.map nV)
 ub : U b
 uo : U bo
 ui : U bi
 us : ∀ k, vblk sv k → U k
 ne : bo ≠ bi
 ns : ∀ k, vblk sv k → k ≠ b
 wf : B.WF
 le : B.l.length ≤ 64
def BdAt (U : Nat → Prop) (w : World) (b : Nat) (B : BdM) : Prop := ∃ bo bi sv, BdQ U w b B bo bi sv
theorem BdQ.mod {U fp : Nat → Prop} {w w' : World} {b : Nat} {B : BdM} {bo bi : Nat} {sv : Value} (h : BdQ U w b B bo bi sv) (m : Mod fp w w') (hf : ∀ k, U k → ¬ fp k) : BdQ U w' b B bo bi sv :=
 ⟨m.get h.here (hf _ h.ub), h.own.mod m (hf _ h.uo), h.ids.mod m (hf _ h.ui), h.nums.mod m fun k hk => hf k (h.us k hk), h.ub, h.uo, h.ui, h.us, h.ne, h.ns, h.wf, h.le⟩
theorem BdAt.mod {U fp : Nat → Prop} {w w' : World} {b : Nat} {B : BdM} (h : BdAt U w b B) (m : Mod fp w w') (hf : ∀ k, U k → ¬ fp k) : BdAt U w' b B := by
 obtain ⟨bo, bi, sv, h⟩ := h
 exact ⟨bo, bi, sv, h.mod m hf⟩
theorem BdAt.same {U : Nat → Prop} {w w' : World} {b : Nat} {B : BdM} (h : BdAt U w b B) (m : Same w w') : BdAt U w' b B := h.mod m fun _ _ h => h
theorem BdAt.mono {U U' : Nat → Prop} {w : World} {b : Nat} {B : BdM} (h : BdAt U w b B) (hU : ∀ k, k < w.heap.size → U k → U' k) : BdAt U' w b B := by
 obtain ⟨bo, bi, sv, h⟩ := h
 exact ⟨bo, bi, sv, h.here, h.own, h.ids, h.nums, hU _ (lt_of_blk h.here) h.ub, hU _ h.own.lt h.uo, hU _ h.ids.lt h.ui, fun k hk => hU _ (h.nums.vblk_lt hk) (h.us k hk), h.ne, h.ns, h.wf, h.le⟩
theorem BdQ.apart {U : Nat → Prop} {w : World} {b : Nat} {B : BdM} {bo bi : Nat} {sv : Value} (h : BdQ U w b B bo bi sv) : bo ≠ b ∧ bi ≠ b ∧ ∀ k, vblk sv k → k ≠ bo ∧ k ≠ bi := by
 refine ⟨fun e => ?_, fun e => ?_, fun k hk => ?_⟩
 ·exact (e ▸ h.own).cells h.here
 ·exact (e ▸ h.ids).cells h.here
 ·obtain ⟨arr, t, hk⟩ := own_cells h.nums hk
  exact ⟨fun e => (e ▸ h.own).cells hk, fun e => (e ▸ h.ids).cells hk⟩
theorem bdNew (w : World) : Meets Tryz.prog 67 #[] w fun v w' => ∃ b, v = .pointer (some ⟨b, 0, none⟩) ∧ BdAt (fun k => w.heap.size ≤ k) w' b ⟨[], 1⟩ ∧ Same w w' := by
 refine f67_ok ?_
 unfold f67
 refine kmap_of fun w2 h2 hs2 hm2 => ?_
 refine kmap_of fun w4 h4 hs4 hm4 => ?_
 refine kbld_of (cs := [.map (some w.heap.size), .map (some w2.heap.size), .slice none 0 0, .int .i64 1]) rfl ?_
 refine knew_of fun w6 h6 hs6 hb6 => ?_
 refine ⟨w4.heap.size, rfl, ⟨w.heap.size, w2.heap.size, .slice none 0 0, hb6, ?_, ?_, Own.nil _ _, by omega, by omega, by omega, fun k hk => ?_, by omega, fun k hk => ?_, ⟨List.Pairwise.nil, (fun x hx => by cases hx), List.nodup_nil, Nat.le_refl _⟩, by simp⟩, (h2.trans h4).trans h6⟩
 ·have e : blk w2 w.heap.size = some (.map #[] 0) := hm2 .i64
  exact MapV.new ((h4.trans h6).get e (fun h => h))
 ·have e : blk w4 w2.heap.size = some (.map #[] 0) := hm4 .i64
  exact MapV.new (h6.get e (fun h => h))
 ·obtain ⟨_, _, _, e⟩ := hk; cases e
 ·obtain ⟨_, _, _, e⟩ := hk; cases e
theorem bdEntity {U : Nat → Prop} {w : World} {b : Nat} {B : BdM} (h : BdAt U w b B) (x : Int) :
  Meets Tryz.prog 228 #[.pointer (some ⟨b, 0, none⟩), .int .i64 x] w fun v w' => v = .tuple #[(match B.l.find? fun y => decide (((y.1 : Nat) : Int) = x) with | some y => y.2.v | none => entV 0 0), .bool (B.l.find? fun y => decide (((y.1 : Nat) : Int) = x)).isSome] ∧ Same w w' := by
 obtain ⟨bo, bi, sv, h⟩ := h
 refine f228_ok ?_
 unfold f228
 refine knew_of fun w2 h2 hs2 hb2 => ?_
 rw [keq_ptr_nil ptBad]
 refine kB_at ?_
 refine kIf_F rfl ?_
 unfold f228_0
 have q2 := h.mod h2 (fun _ _ h => h)
 have hh := q2.here
 refine kN_at ?_
 refine kfld_of ?_
 refine kld_at hh rfl ?_
 refine klookOkV (F := intF) Tryz.underlying247 keyInt' zEnt0 q2.own x ?_
 obtain ⟨i, g, hig⟩ : ∃ i g : Int, (B.own x).getD (entV 0 0) = entV i g := by
  unfold BdM.own
  cases B.l.find? fun y => decide (((y.1 : Nat) : Int) = x) with
  | none => exact ⟨0, 0, rfl⟩
  | some y => exact ⟨y.2.i, y.2.g, rfl⟩
 have hres : (match B.l.find? fun y => decide (((y.1 : Nat) : Int) = x) with | some y => y.2.v | none => entV 0 0) = entV i g := by
  rw [← hig]
  unfold BdM.own
  cases B.l.find? fun y => decide (((y.1 : Nat) : Int) = x) <;> rfl
 have hsome : (B.own x).isSome = (B.l.find? fun y => decide (((y.1 : Nat) : Int) = x)).isSome := by unfold BdM.own; simp
 rw [hig, hres, hsome]
 have hz2 := h2.size
 refine kext_at rfl ?_
 refine kext_at rfl ?_
 refine knew_of fun w14 h14 hs14 hb14 => ?_
 refine kst_of (vs := [.int .i64 i, .int .i64 g]) hb14 rfl rfl rfl (by simp) (by simp) fun w16 h16 hs16 hb16 => ?_
 have hb16 : blk w16 w2.heap.size = some (.cells #[.int .i64 i, .int .i64 g] 176) := hb16
 refine kldN_at (cs := [.int .i64 i, .int .i64 g]) hb16 rfl (by omega) ?_
 have m14 : Same w w14 := h2.trans h14
 have m16 : Same w w16 := m14.trans' (h16.mono fun k _ e => .inr (by omega))
 have hb2' : ∃ arr, blk w16 w.heap.size = some (.cells arr 176) ∧ arr.size = 2 := ⟨_, h16.get (h14.get hb2 (fun h => h)) (by omega), rfl⟩
 obtain ⟨arr, hb2', ha2⟩ := hb2'
 refine kst_of (vs := [.int .i64 i, .int .i64 g]) hb2' rfl rfl rfl (by omega) (by simp) fun w18 h18 hs18 hb18 => ?_
 have hb18 : blk w18 w.heap.size = some (.cells (setAll [.int .i64 i, .int .i64 g] arr 0) 176) := hb18
 have e18 : segL (setAll [Value.int .i64 i, .int .i64 g] arr 0).toList 0 2 = some [.int .i64 i, .int .i64 g] := by
  have hal : arr = #[arr[0], arr[1]] := by
   apply Array.ext
   ·simp [ha2]
   ·intro i h1 h2
    have : i = 0 ∨ i = 1 := by omega
    rcases this with rfl | rfl <;> simp
  rw [hal]; rfl
 refine kldN_at (cs := [.int .i64 i, .int .i64 g]) hb18 e18 (by omega) ?_
 exact ⟨rfl, m16.trans' (h18.mono fun k _ e => .inr (by omega))⟩
theorem bdID {U : Nat → Prop} {w : World} {b : Nat} {B : BdM} (h : BdAt U w b B) (e : EK) :
  Meets Tryz.prog 130 #[.pointer (some ⟨b, 0, none⟩), e.v] w fun v w' => v = .tuple #[(B.ids e).getD (.int .i64 0), .bool (B.ids e).isSome] ∧ Same w w' := by
 obtain ⟨bo, bi, sv, h⟩ := h
 refine f130_ok ?_
 unfold f130
 refine knew_of fun w2 hm2 hs2 hb2 => ?_
 have hb2 : blk w2.drew w.heap.size = some (.cells #[.int .i64 e.i, .int .i64 e.g] 176) := hb2
 rw [keq_ptr_nil ptBad]
 refine kB_at ?_
 refine kIf_F rfl ?_
 unfold f130_0
 have m2 : Same w w2.drew := hm2.drew
 have h2 := h.mod m2 (fun _ _ h => h)
 generalize w2.drew = wa at *
 have hh := h2.here
 refine kN_at ?_
 refine kfld_of ?_
 refine kld_at hh rfl ?_
 refine kG_of rfl ?_
 refine kldN_at (cs := [.int .i64 e.i, .int .i64 e.g]) hb2 rfl (by omega) ?_
 refine kG_of rfl ?_
 refine klookOkV Tryz.underlying248 keyEK zInt0 h2.ids e ?_
 refine kG_of rfl ?_
 refine kext_at rfl ?_
 refine kext_at rfl ?_
 exact ⟨rfl, m2⟩
end
section
attribute [local irreducible] kO kB kStr kInt kN kG kIf kfld kld kldN kst knew kmap kbld kbldS kext kcnv klenStr klen kcap kprt kprtN kbool kint kstr keq kun ksl kix kiv kta kmk kmm ksem ksemU kextf kcallV kcallM kcall kL
theorem find_append {α : Type} (p : α → Bool) (l : List α) (x : α) : (l ++ [x]).find? p = (l.find? p).or (if p x then some x else none) := by
 rw [List.find?_append]
 congr 1
 simp only [List.find?_cons, List.find?_nil]
 cases p x <;> rfl
theorem BdM.own_none {B : BdM} {n : Int} : B.own n = none ↔ ∀ x ∈ B.l, ((x.1 : Nat) : Int) ≠ n := by
 unfold BdM.own
 rw [Option.map_eq_none_iff, List.find?_eq_none]
 simp
theorem BdM.ids_none {B : BdM} {e : EK} : B.ids e = none ↔ ∀ x ∈ B.l, x.2 ≠ e := by
 unfold BdM.ids
 rw [Option.map_eq_none_iff, List.find?_eq_none]
 simp
theorem BdM.own_snoc (B : BdM) (n nx : Nat) (e : EK) (h : B.own n = none) : (BdM.mk (B.l ++ [(n, e)]) nx).own = fun m => if m = ((n : Nat) : Int) then some e.v else B.own m := by
 funext m
 show ((B.l ++ [(n, e)]).find? fun x => decide (((x.1 : Nat) : Int) = m)).map (fun x => x.2.v) = _
 rw [find_append]
 by_cases hm : m = ((n : Nat) : Int)
 ·subst hm
  have : (B.l.find? fun x => decide (((x.1 : Nat) : Int) = ((n : Nat) : Int))) = none := by
   unfold BdM.own at h
   exact Option.map_eq_none_iff.1 h
  rw [this, if_pos rfl]
  simp
 ·rw [if_neg hm]
  unfold BdM.own
  have : decide (((n : Nat) : Int) = m) = false := decF (fun e => hm e.symm)
  simp only [this]
  cases (B.l.find? fun x => decide (((x.1 : Nat) : Int) = m)) <;> rfl
theorem BdM.ids_snoc (B : BdM) (n nx : Nat) (e : EK) (h : B.ids e = none) : (BdM.mk (B.l ++ [(n, e)]) nx).ids = fun m => if m = e then some (natV n) else B.ids m := by
 funext m
 show ((B.l ++ [(n, e)]).find? fun x => decide (x.2 = m)).map (fun x => natV x.1) = _
 rw [find_append]
 by_cases hm : m = e
 ·subst hm
  have : (B.l.find? fun x => decide (x.2 = m)) = none := by
   unfold BdM.ids at h
   exact Option.map_eq_none_iff.1 h
  rw [this, if_pos rfl]
  simp
 ·rw [if_neg hm]
  unfold BdM.ids
  have : decide (e = m) = false := decF (fun e => hm e.symm)
  simp only [this]
  cases (B.l.find? fun x => decide (x.2 = m)) <;> rfl
theorem bdOwn {U : Nat → Prop} {w : World} {b : Nat} {B : BdM} {bo bi : Nat} {sv nx : Value} (h : BdQ U w b B bo bi sv) {w1 : World} (hb : blk w1 b = some (.cells #[.map (some bo), .map (some bi), sv, nx] 250)) (ho : MapV intF w1 bo B.own) (hi : MapV EK.v w1 bi B.ids) (hs : Own w1 sv 1 (B.nums.map nV)) (hle : B.l.length < 64) (e : EK) (he : B.ids e = none) :
  Meets Tryz.prog 132 #[.pointer (some ⟨b, 0, none⟩), natV B.nx, e.v] w1 fun v w' => v = .tuple #[] ∧ ∃ sv', blk w' b = some (.cells #[.map (some bo), .map (some bi), sv', nx] 250) ∧ MapV intF w' bo (BdM.mk (B.l ++ [(B.nx, e)]) (B.nx + 1)).own ∧ MapV EK.v w' bi (BdM.mk (B.l ++ [(B.nx, e)]) (B.nx + 1)).ids ∧
   Own w' sv' 1 ((BdM.mk (B.l ++ [(B.nx, e)]) (B.nx + 1)).nums.map nV) ∧ (∀ k, vblk sv' k → vblk sv k ∨ w1.heap.size ≤ k) ∧ Mod (fun k => k = b ∨ k = bo ∨ k = bi ∨ vblk sv k) w1 w' := by
 have hsO := hs
 obtain ⟨sa, sn, sc, rfl, hsl, hsn⟩ := hs.is
 have hsn : sn = B.nums.length := by simpa using hsn rfl
 subst hsn
 have hnl : B.nums.length = B.l.length := by unfold BdM.nums; simp
 obtain ⟨hnb, hnb2, hnv⟩ := h.apart
 have ne := h.ne
 have ns := h.ns
 have lb := lt_of_blk hb
 have lo := ho.lt
 have li := hi.lt
 rw [natV]
 refine f132_ok ?_
 unfold f132
 refine knew_of fun w2 h2 hs2 hb2 => ?_
 have he2 : blk w2 w1.heap.size = some (.cells #[.int .i64 e.i, .int .i64 e.g] 176) := hb2
 have hbw2 := h2.get hb (fun h => h)
 refine kN_at ?_
 refine kfld_of ?_
 refine kld_at hbw2 rfl ?_
 refine kcall_of (bsearchG (by omega) (hsl.same h2) h.wf.ascI (B.nx : Int)) ?_
 rintro v w6 ⟨h6, k, hk, hk1, hk2, rfl⟩
 have hkl : k = B.nums.length := by
  by_cases hlt : k < B.nums.length
  ·have h1 := hk2 k hlt (Nat.le_refl _)
   have hkL : k < B.l.length := by omega
   have h2 : B.nums[k] = ((B.l[k].1 : Nat) : Int) := by simp [BdM.nums]
   have := h.wf.lt _ (List.getElem_mem hkL)
   omega
  ·omega
 subst hkl
 have m6 := h2.trans h6
 have hbw6 := m6.get hb (fun h => h)
 refine kext_at rfl ?_
 refine kext_at rfl ?_
 refine kN_at ?_
 refine kfld_of ?_
 refine kld_at hbw6 rfl ?_
 refine kbldS_of (cs := [.int .i64 ((B.nx : Nat) : Int)]) rfl fun w12 h12 hs12 hb12 => ?_
 have m12 := m6.trans h12
 have hO12 := hsO.same m12
 have hlen : (B.nums.map nV).length = B.nums.length := by simp
 refine kcall_of (by have := insert_end hO12 (by rw [hlen]; omega) (x := ((B.nx : Nat) : Int)) hb12; rw [hlen, natV] at this; exact this) ?_
 rintro v w14 ⟨hO14, h14, hf14⟩
 have eN : B.nums.map nV ++ [Value.int .i64 ((B.nx : Nat) : Int)] = (BdM.mk (B.l ++ [(B.nx, e)]) (B.nx + 1)).nums.map nV := by unfold BdM.nums; simp [nV]
 rw [eN] at hO14
 obtain ⟨va, vn, vc, rfl, _, _⟩ := hO14.is
 have hbw14 := h14.get (m12.get hb (fun h => h)) (fun hk => ns _ hk rfl)
 have he14 := h14.get ((h6.trans h12).get he2 (fun h => h)) (fun hk => by have := hsO.vblk_lt hk; omega)
 have ho14 := (ho.same m12).mod h14 (fun hk => (hnv _ hk).1 rfl)
 have hi14 := (hi.same m12).mod h14 (fun hk => (hnv _ hk).2 rfl)
 refine kN_at ?_
 refine kfld_of ?_
 refine kst_of (vs := [.slice va vn vc]) hbw14 rfl rfl rfl (by simp) (by simp) fun w16 h16 hs16 hb16 => ?_
 have hbw16 : blk w16.drew b = some (.cells #[.map (some bo), .map (some bi), .slice va vn vc, nx] 250) := hb16
 have hd16 : Mod (fun k => k = b) w14 w16.drew := h16.drew
 have he16 := hd16.get he14 (by omega)
 have ho16 := ho14.mod hd16 hnb
 have hi16 := hi14.mod hd16 hnb2
 have hz12 := m12.size
 have hO16 := hO14.mod hd16 (fun k hk e => by
  rcases hf14 k hk with h | h
  ·exact ns k h e
  ·omega)
 generalize w16.drew = wa at *
 refine kN_at ?_
 refine kfld_of ?_
 refine kld_at hbw16 rfl ?_
 refine kG_of rfl ?_
 refine kN_at ?_
 refine kfld_of ?_
 refine kld_at hbw16 rfl ?_
 refine kG_of rfl ?_
 refine kldN_at (cs := [.int .i64 e.i, .int .i64 e.g]) he16 rfl (by omega) ?_
 refine kG_of rfl ?_
 refine kldN_at (cs := [.int .i64 e.i, .int .i64 e.g]) he16 rfl (by omega) ?_
 refine kG_of rfl ?_
 have hon : B.own (B.nx : Int) = none := BdM.own_none.2 fun x hx => by have := (h.wf.lt x hx).2; omega
 refine kmapEntryV (F := intF) Tryz.underlying247 keyInt' zEnt0 ho16 ((B.nx : Nat) : Int) fun w24 s24 h24 hs24 hm24 => ?_
 have hz16 := hd16.size
 have hz14 := h14.size
 have he24 := h24.get he16 (by omega)
 rw [hon]
 refine kG_of (kldN_at (cs := [.int .i64 e.i, .int .i64 e.g]) he24 rfl (by omega) ⟨rfl, rfl⟩) ?_
 refine kG_of (kldN_at (cs := [.int .i64 e.i, .int .i64 e.g]) he24 rfl (by omega) ⟨rfl, rfl⟩) ?_
 refine kext_at rfl ?_
 refine kentryStoreV (F := intF) hm24 fun w26 h26 hs26 hm26 => ?_
 have he26 := h26.get he24 (by omega)
 refine kG_of (kldN_at (cs := [.int .i64 e.i, .int .i64 e.g]) he26 rfl (by omega) ⟨rfl, rfl⟩) ?_
 have m26 : Mod (fun k => k = bo) wa w26 := h24.trans h26
 have hi26 := hi16.mod m26 (fun h => ne h.symm)
 refine kmapEntryV (F := EK.v) Tryz.underlying248 keyEK zInt0 hi26 e fun w28 s28 h28 hs28 hm28 => ?_
 rw [he]
 refine kext_at rfl ?_
 refine kentryStoreV (F := EK.v) hm28 fun w30 h30 hs30 hm30 => ?_
 have m30 : Mod (fun k => k = bi) w26 w30 := h28.trans h30
 refine ⟨rfl, _, m30.get (m26.get hbw16 (fun h => hnb h.symm)) (fun h => hnb2 h.symm), ?_, ?_, ?_, fun k hk => ?_, ?_⟩
 ·rw [BdM.own_snoc B B.nx (B.nx + 1) e hon]
  exact hm26.mod m30 ne
 ·rw [BdM.ids_snoc B B.nx (B.nx + 1) e he]
  exact hm30
 ·refine (hO16.mod m26 fun k hk e => ?_).mod m30 fun k hk e => ?_
  ·rcases hf14 k hk with h | h
   ·exact (hnv k h).1 e
   ·omega
  ·rcases hf14 k hk with h | h
   ·exact (hnv k h).2 e
   ·omega
 ·rcases hf14 k hk with h | h
  ·exact .inl h
  ·exact .inr (by omega)
 ·exact (Mod.of_same m12).trans ((h14.mono fun k _ h => .inr (.inr (.inr h))).trans ((hd16.mono fun k _ h => .inl h).trans ((m26.mono fun k _ h => .inr (.inl h)).trans (m30.mono fun k _ h => .inr (.inr (.inl h))))))
theorem bdGive {U : Nat → Prop} {w : World} {b : Nat} {B : BdM} (h : BdAt U w b B) (e : EK) (he : B.ids e = none) (hle : B.l.length < 64) (hnx : B.nx ≤ 1073741824) :
  Meets Tryz.prog 75 #[.pointer (some ⟨b, 0, none⟩), e.v] w fun v w' => v = .tuple #[natV B.nx, .nilIface] ∧ BdAt (fun k => U k ∨ w.heap.size ≤ k) w' b ⟨B.l ++ [(B.nx, e)], B.nx + 1⟩ ∧ Mod U w w' := by
 have hA := h
 obtain ⟨bo, bi, sv, h⟩ := h
 refine f75_ok ?_
 unfold f75
 refine knew_of fun w2 h2 hs2 hb2 => ?_
 have he2 : blk w2 w.heap.size = some (.cells #[.int .i64 e.i, .int .i64 e.g] 176) := hb2
 refine kldN_at (cs := [.int .i64 e.i, .int .i64 e.g]) he2 rfl (by omega) ?_
 refine kcall_of (bdID (hA.same h2) e) ?_
 rintro v w5 ⟨rfl, h5⟩
 rw [he]
 refine kext_at rfl ?_
 refine kext_at rfl ?_
 rw [keq_ptr_nil ptBad]
 refine kB_at ?_
 refine kIf_F rfl ?_
 refine kB_at ?_
 refine kIf_F rfl ?_
 have m5 := h2.trans h5
 have h5' := h.mod m5 (fun _ _ h => h)
 have he5 := h5.get he2 (fun h => h)
 have hh := h5'.here
 rw [natV] at hh ⊢
 refine kN_at ?_
 refine kfld_of ?_
 refine kld_of (v := .int .i64 ((B.nx : Nat) : Int)) hh rfl ?_
 refine gtr_at ?_
 rw [decF (by omega)]
 refine kB_at ?_
 refine kIf_F rfl ?_
 unfold f75_0
 refine kN_at ?_
 refine kfld_of ?_
 refine kld_of (v := .int .i64 ((B.nx : Nat) : Int)) hh rfl ?_
 refine kN_at ?_
 refine kfld_of ?_
 refine kld_of (v := .int .i64 ((B.nx : Nat) : Int)) hh rfl ?_
 refine add_at (by omega) (by omega) ?_
 refine kN_at ?_
 refine kfld_of ?_
 refine kst_of (vs := [.int .i64 (((B.nx : Nat) : Int) + 1)]) hh rfl rfl rfl (by simp) (by simp) fun w28 h28 hs28 hb28 => ?_
 have hb28 : blk w28 b = some (.cells #[.map (some bo), .map (some bi), sv, .int .i64 (((B.nx : Nat) : Int) + 1)] 250) := hb28
 obtain ⟨hnb, hnb2, hnv⟩ := h.apart
 have lb := lt_of_blk h.here
 have he28 := h28.get he5 (by omega)
 refine kldN_at (cs := [.int .i64 e.i, .int .i64 e.g]) he28 rfl (by omega) ?_
 refine kcall_of (bdOwn h hb28 (h5'.own.mod h28 hnb) (h5'.ids.mod h28 hnb2) (h5'.nums.mod h28 fun k hk => h5'.ns k hk) hle e he) ?_
 rintro v w31 ⟨rfl, sv', g1, g2, g3, g4, g5, g6⟩
 have hz5 := m5.size
 refine ⟨rfl, ⟨bo, bi, sv', ?_, g2, g3, g4, .inl h.ub, .inl h.uo, .inl h.ui, fun k hk => ?_, h.ne, fun k hk => ?_, ?_, by simp; omega⟩, ?_⟩
 ·have : (((B.nx : Nat) : Int) + 1) = ((B.nx + 1 : Nat) : Int) := by omega
  rw [this] at g1
  exact g1
 ·rcases g5 k hk with h1 | h1
  ·exact .inl (h.us k h1)
  ·exact .inr (by omega)
 ·rcases g5 k hk with h1 | h1
  ·exact h.ns k h1
  ·omega
 ·refine ⟨?_, fun x hx => ?_, ?_, Nat.le_succ_of_le h.wf.pos⟩
  ·rw [List.map_append, List.pairwise_append]
   refine ⟨h.wf.asc, by simp, fun x hx y hy => ?_⟩
   obtain ⟨z, hz, rfl⟩ := List.mem_map.1 hx
   have := (h.wf.lt z hz).2
   simp at hy
   omega
  ·rcases List.mem_append.1 hx with h1 | h1
   ·have := h.wf.lt x h1
    exact ⟨this.1, Nat.lt_succ_of_lt this.2⟩
   ·have hx1 : x = (B.nx, e) := by simpa using h1
    subst hx1
    have hnx1 : 1 ≤ B.nx := h.wf.pos
    exact ⟨hnx1, Nat.lt_succ_self _⟩
  ·rw [List.map_append]
   refine List.nodup_append.2 ⟨h.wf.nd, by simp, fun x hx y hy e1 => ?_⟩
   obtain ⟨z, hz, rfl⟩ := List.mem_map.1 hx
   have hy1 : y = e := by simpa using hy
   exact BdM.ids_none.1 he z hz (by rw [e1, hy1])
 ·refine (Mod.of_same m5).trans ((h28.mono fun k _ e => by rw [e]; exact h.ub).trans (g6.mono fun k _ e => ?_))
  rcases e with rfl | rfl | rfl | e
  ·exact h.ub
  ·exact h.uo
  ·exact h.ui
  ·exact h.us k e
end
section
attribute [local irreducible] kO kB kStr kInt kN kG kIf kfld kld kldN kst knew kmap kbld kbldS kext kcnv klenStr klen kcap kprt kprtN kbool kint kstr keq kun ksl kix kiv kta kmk kmm ksem ksemU kextf kcallV kcallM kcall kL
end
section

end
section
attribute [local irreducible] kO kB kStr kInt kN kG kIf kfld kld kldN kst knew kmap kbld kbldS kext kcnv klenStr klen kcap kprt kprtN kbool kint kstr keq kun ksl kix kiv kta kmk kmm ksem ksemU kextf kcallV kcallM kcall kL
def TurnedX (X : Nat → Prop) (o : Lab) (w : World) (b : Nat) (S' : SM) (w' : World) : Prop := ∃ o' p', LabEq w o o' ∧ StoreP o' w' b p' S' ∧ Mod (FP o fun _ => True) w w' ∧ (∀ k, w'.heap.size ≤ k → o' k = none) ∧ ∀ k, X k → o' k = none
theorem TurnedX.t {X : Nat → Prop} {o : Lab} {w w' : World} {b : Nat} {S' : SM} (h : TurnedX X o w b S' w') : Turned o w b S' w' := by
 obtain ⟨o', p', h1, h2, h3, h4, _⟩ := h
 exact ⟨o', p', h1, h2, h3, h4⟩
theorem TurnedX.wrap {X : Nat → Prop} {o : Lab} {w w4 w5 w6 : World} {b : Nat} {S' : SM} (m : Same w w4) (t : TurnedX X (cutL o w.heap.size) w4 b S' w5) (hz : Mod (fun k => w.heap.size ≤ k ∧ k < w4.heap.size) w5 w6) : TurnedX X o w b S' w6 := by
 obtain ⟨o', p', hl, hP, hm, hc, hx⟩ := t
 have ml := m.size
 have hl' : LabEq w o (cutL o' w6.heap.size) := fun k hk => by
  have := hm.size
  have := hz.size
  have e := hl k (by omega)
  unfold cutL at *
  rw [if_pos (by omega), e, if_pos hk]
 refine ⟨cutL o' w6.heap.size, p', hl', hP.frame hz (fun k t e ⟨e1, e2⟩ => ?_) (fun k hk => ?_), ((Mod.of_same m).trans (hm.mono fun k _ hk => hk.cut.1)).trans' (hz.mono fun k _ hk => .inr hk.1), fun k hk => cutL_none hk, fun k hk => ?_⟩
 ·rw [hl k e2] at e
  rw [cutL_none e1] at e; cases e
 ·have := hz.size
  unfold cutL
  rw [if_pos (by omega)]
 ·unfold cutL
  split
  ·exact hx k hk
  ·rfl
theorem TurnedX.seq {X : Nat → Prop} {o o1 : Lab} {w w1 w2 w3 : World} {b : Nat} {S' : SM} (hl : LabEq w o o1) (hm : Mod (FP o fun _ => True) w w1) (m : Same w1 w2) (t : TurnedX X o1 w2 b S' w3) : TurnedX X o w b S' w3 := by
 obtain ⟨o', p', hl', hP, hm', hc, hx⟩ := t
 have hm2 := hm.trans (Mod.of_same m)
 exact ⟨o', p', hl.trans hl' hm2.size, hP, Mod.labs hm2 hl hm', hc, hx⟩
end
section
attribute [local irreducible] kO kB kStr kInt kN kG kIf kfld kld kldN kst knew kmap kbld kbldS kext kcnv klenStr klen kcap kprt kprtN kbool kint kstr keq kun ksl kix kiv kta kmk kmm ksem ksemU kextf kcallV kcallM kcall kL
end
section
def SortP (L : List Part) : Prop := L.Pairwise (fun x y => x.comp ≤ y.comp)
theorem nt_inj : ∀ {A : List Part}, NoTwice A → ∀ x ∈ A, ∀ y ∈ A, x.comp = y.comp → x = y
 | [], _, x, hx, _, _, _ => by cases hx
 | a :: A, h, x, hx, y, hy, e => by
  have h' := List.nodup_cons.1 (show (a.comp :: A.map (·.comp)).Nodup from h)
  rcases List.mem_cons.1 hx with hxa | hxA
  ·rcases List.mem_cons.1 hy with hya | hyA
   ·rw [hxa, hya]
   ·exact absurd (show a.comp ∈ A.map (·.comp) from List.mem_map.2 ⟨y, hyA, by rw [← hxa]; exact e.symm⟩) h'.1
  ·rcases List.mem_cons.1 hy with hya | hyA
   ·exact absurd (show a.comp ∈ A.map (·.comp) from List.mem_map.2 ⟨x, hxA, by rw [← hya]; exact e⟩) h'.1
   ·exact nt_inj h'.2 x hxA y hyA e
theorem sorted_unique {A B : List Part} (hp : A.Perm B) (hA : SortP A) (hB : SortP B) (hn : NoTwice A) : A = B :=
 List.Perm.eq_of_pairwise (le := fun x y : Part => x.comp ≤ y.comp) (fun a b ha hb h1 h2 => nt_inj hn a ha b (hp.mem_iff.2 hb) (by omega)) hA hB hp
theorem NoTwice.filter {L : List Part} (h : NoTwice L) (p : Part → Bool) : NoTwice (L.filter p) :=
 List.Nodup.sublist (List.Sublist.map _ List.filter_sublist) h
end
section
attribute [local irreducible] kO kB kStr kInt kN kG kIf kfld kld kldN kst knew kmap kbld kbldS kext kcnv klenStr klen kcap kprt kprtN kbool kint kstr keq kun ksl kix kiv kta kmk kmm ksem ksemU kextf kcallV kcallM kcall kL
end
section
attribute [local irreducible] kO kB kStr kInt kN kG kIf kfld kld kldN kst knew kmap kbld kbldS kext kcnv klenStr klen kcap kprt kprtN kbool kint kstr keq kun ksl kix kiv kta kmk kmm ksem ksemU kextf kcallV kcallM kcall kL
theorem Cur.turnN {w0 : World} {o : Lab} {w w' : World} {b : Nat} {p : Ptrs} {S S' : SM} {t t' : Nat} (h : Cur w0 o w b p S t) (T : Turned o w b S' w') (hG : GS S' t') : ∃ o' p', Cur w0 o' w' b p' S' t' ∧ (∀ k, k < w.heap.size → o k = none → o' k = none) ∧ Mod (fun k => o k ≠ none) w w' := by
 obtain ⟨o', p', C, hl, hm⟩ := h.turn T hG
 exact ⟨o', p', C, fun k hk e => by rw [hl k hk]; exact e, hm⟩
theorem Cur.mod {w0 : World} {o : Lab} {w w2 : World} {b : Nat} {p : Ptrs} {S : SM} {t : Nat} (h : Cur w0 o w b p S t) {fp : Nat → Prop} (m : Mod fp w w2) (hf : ∀ k, fp k → o k = none) (hlo : ∀ k, fp k → w0.heap.size ≤ k) : Cur w0 o w2 b p S t :=
 ⟨h.sp.frame m (fun k t e hk => by rw [hf k hk] at e; cases e) (LabEq.refl _ _), h.gs, h.lo, fun k hk => h.hi k (Nat.le_trans m.size hk), h.same.trans' (m.mono fun k _ e => .inr (hlo k e))⟩
end
section
theorem GS.succ {S : SM} {t : Nat} (h : GS S t) : GS S (t + 1) := ⟨h.wf, h.fr, fun i x e => by have := h.gen i x e; omega, by have := h.ml; omega, h.g64⟩
structure Kept (S S' : SM) (n : Nat) : Prop where
 cs : S'.cs = S.cs
 len : S'.gens.length = S.gens.length
 others : ∀ j, j ≠ n → S'.gens[j]? = S.gens[j]?
 own : ∀ g al, S.gens[n]? = some (g, al) → ∃ al', S'.gens[n]? = some (g, al')
 parts : ∀ j gj, j ≠ n → S.gens[j]? = some (gj, true) → partsOf S' j = partsOf S j
theorem Kept.refl (S : SM) (n : Nat) : Kept S S n := ⟨rfl, rfl, fun _ _ => rfl, fun _ al h => ⟨al, h⟩, fun _ _ _ _ => rfl⟩
theorem Went.kept {S S' : SM} {L : List Part} {i : Nat} (h : Went S S' L i) : Kept S S' i := ⟨h.cs, by rw [h.gens], fun _ _ => by rw [h.gens], fun _ al e => ⟨al, by rw [h.gens]; exact e⟩, h.others⟩
theorem PutS.kept {S S' : SM} {i c : Nat} {q : Part} (h : PutS S S' i c q) : Kept S S' i := ⟨h.cs, by rw [h.gens], fun _ _ => by rw [h.gens], fun _ al e => ⟨al, by rw [h.gens]; exact e⟩, h.others⟩
def Done (o : Lab) (w : World) (b : Nat) (S : SM) (t n : Nat) (w' : World) : Prop := ∃ S', GS S' (t + 1) ∧ Kept S S' n ∧ (Same w w' ∧ S' = S ∨ Turned o w b S' w')
theorem Done.same {o : Lab} {w w' : World} {b : Nat} {S : SM} {t n : Nat} (hG : GS S t) (m : Same w w') : Done o w b S t n w' := ⟨S, hG.succ, Kept.refl S n, .inl ⟨m, rfl⟩⟩
theorem Cur.done {w0 : World} {o : Lab} {w w' : World} {b : Nat} {p : Ptrs} {S : SM} {t n : Nat} (h : Cur w0 o w b p S t) (d : Done o w b S t n w') : ∃ o' p' S', Cur w0 o' w' b p' S' (t + 1) ∧ Kept S S' n ∧ (∀ k, k < w.heap.size → o k = none → o' k = none) ∧ Mod (fun k => o k ≠ none) w w' := by
 obtain ⟨S', hG, hK, ⟨m, rfl⟩ | T⟩ := d
 ·have C := h.loc m
  exact ⟨o, p, S', ⟨C.sp, hG, C.lo, C.hi, C.same⟩, hK, fun _ _ e => e, Mod.of_same m⟩
 ·obtain ⟨o', p', C, hk, hm⟩ := h.turnN T hG
  exact ⟨o', p', S', C, hK, hk, hm⟩
theorem FreeOk.lt {S : SM} (h : FreeOk S) {i : Nat} {g : Int} (hg : S.gens[i]? = some (g, true)) : S.free.length < S.gens.length := by
 have hil := (List.getElem?_eq_some_iff.1 hg).1
 have hni : i ∉ S.free := fun hm => by
  obtain ⟨g', e⟩ := (h.2 i).1 hm
  rw [hg] at e; cases e
 have hnd : (i :: S.free).Nodup := List.nodup_cons.2 ⟨hni, h.1⟩
 have := List.Nodup.length_le_of_subset hnd (l₂ := List.range S.gens.length) (fun a ha => by
  rcases List.mem_cons.1 ha with rfl | ha
  ·simpa using hil
  ·obtain ⟨g', e⟩ := (h.2 a).1 ha
   simpa using (List.getElem?_eq_some_iff.1 e).1)
 simp at this
 omega
theorem none_at {o : Lab} {w : World} {b : Nat} {p : Ptrs} {S : SM} (h : StoreP o w b p S) {t : Nat} (hG : GS S t) {i : Nat} {g : Int} (hg : S.gens[i]? = some (g, true)) {c : Int} (hno : ∀ x ∈ partsOf S i, x.comp ≠ c) :
  ∃ n r, S.spots[i]? = some (n, r) ∧ ∃ hn : n < S.tabs.length, ∀ x ∈ compsM S.masks n, (x : Int) ≠ c := by
 obtain ⟨n, r, hsp, hn, hnm, _, hpe, hce, hmap, _⟩ := parts_ok h hG hg
 refine ⟨n, r, hsp, hn, fun x hx e => ?_⟩
 rw [hce] at hx
 have h1 : (x : Int) ∈ (partsOf S i).map (·.comp) := hmap ▸ List.mem_map.2 ⟨x, hx, rfl⟩
 obtain ⟨y, hy, e2⟩ := List.mem_map.1 h1
 exact hno y hy (e2.trans e)
end
section
theorem Cur.modQ {w0 : World} {o : Lab} {w w2 : World} {b : Nat} {p : Ptrs} {S : SM} {t : Nat} (h : Cur w0 o w b p S t) {fp : Nat → Prop} (m : Mod fp w w2) (hf : ∀ k, fp k → w0.heap.size ≤ k ∧ o k = none) : Cur w0 o w2 b p S t :=
 ⟨h.sp.frame m (fun k t e hk => by rw [(hf k hk).2] at e; cases e) (LabEq.refl _ _), h.gs, h.lo, fun k hk => h.hi k (Nat.le_trans m.size hk), h.same.trans' (m.mono fun k _ e => .inr (hf k e).1)⟩
def WAt (w0 : World) (fx : Nat → Prop) (bs bb : Nat) (w : World) (S : SM) (t : Nat) (B : BdM) : Prop :=
 ∃ o p U, Cur w0 o w bs p S t ∧ BdAt U w bb B ∧ (∀ k, U k → w0.heap.size ≤ k ∧ o k = none ∧ ¬ fx k) ∧ ∀ k, fx k → w0.heap.size ≤ k ∧ k < w.heap.size ∧ o k = none
theorem WAt.same0 {w0 : World} {fx : Nat → Prop} {bs bb : Nat} {w : World} {S : SM} {t : Nat} {B : BdM} (h : WAt w0 fx bs bb w S t B) : Same w0 w := by
 obtain ⟨o, p, U, C, _⟩ := h
 exact C.same
theorem WAt.lt {w0 : World} {fx : Nat → Prop} {bs bb : Nat} {w : World} {S : SM} {t : Nat} {B : BdM} (h : WAt w0 fx bs bb w S t B) {k : Nat} (hk : fx k) : w0.heap.size ≤ k ∧ k < w.heap.size := by
 obtain ⟨o, p, U, _, _, _, hf⟩ := h
 exact ⟨(hf k hk).1, (hf k hk).2.1⟩
theorem WAt.loc {w0 : World} {fx : Nat → Prop} {bs bb : Nat} {w w' : World} {S : SM} {t : Nat} {B : BdM} (h : WAt w0 fx bs bb w S t B) (m : Same w w') : WAt w0 fx bs bb w' S t B := by
 obtain ⟨o, p, U, C, hb, hU, hf⟩ := h
 exact ⟨o, p, U, C.loc m, hb.same m, hU, fun k hk => ⟨(hf k hk).1, Nat.lt_of_lt_of_le (hf k hk).2.1 m.size, (hf k hk).2.2⟩⟩
theorem WAt.less {w0 : World} {fx fx' : Nat → Prop} {bs bb : Nat} {w : World} {S : SM} {t : Nat} {B : BdM} (h : WAt w0 fx bs bb w S t B) (hs : ∀ k, fx' k → fx k) : WAt w0 fx' bs bb w S t B := by
 obtain ⟨o, p, U, C, hb, hU, hf⟩ := h
 exact ⟨o, p, U, C, hb, fun k hk => ⟨(hU k hk).1, (hU k hk).2.1, fun h => (hU k hk).2.2 (hs k h)⟩, fun k hk => hf k (hs k hk)⟩
theorem WAt.other {w0 : World} {fx fp : Nat → Prop} {bs bb : Nat} {w w' : World} {S : SM} {t : Nat} {B : BdM} (h : WAt w0 fx bs bb w S t B) (m : Mod fp w w') (hfp : ∀ k, fp k → fx k) : WAt w0 (fun k => fx k ∨ (w.heap.size ≤ k ∧ k < w'.heap.size)) bs bb w' S t B := by
 obtain ⟨o, p, U, C, hb, hU, hf⟩ := h
 have hz := m.size
 have hz0 := C.same.size
 refine ⟨o, p, fun k => U k ∧ k < w.heap.size, C.modQ m fun k hk => ⟨(hf k (hfp k hk)).1, (hf k (hfp k hk)).2.2⟩, (hb.mono (U' := fun k => U k ∧ k < w.heap.size) fun k hk hu => ⟨hu, hk⟩).mod m fun k hk hp => (hU k hk.1).2.2 (hfp k hp), fun k hk => ⟨(hU k hk.1).1, (hU k hk.1).2.1, fun h => ?_⟩, fun k hk => ?_⟩
 ·rcases h with h | h
  ·exact (hU k hk.1).2.2 h
  ·have := hk.2; omega
 ·rcases hk with h | h
  ·exact ⟨(hf k h).1, by have := (hf k h).2.1; omega, (hf k h).2.2⟩
  ·exact ⟨by omega, h.2, C.hi k h.1⟩
theorem WAt.turned {w0 : World} {fx : Nat → Prop} {bs bb : Nat} {w w' : World} {S S' : SM} {t t' : Nat} {B : BdM} {o : Lab} {p : Ptrs} {U : Nat → Prop} (C : Cur w0 o w bs p S t) (hb : BdAt U w bb B) (hU : ∀ k, U k → w0.heap.size ≤ k ∧ o k = none ∧ ¬ fx k) (hf : ∀ k, fx k → w0.heap.size ≤ k ∧ k < w.heap.size ∧ o k = none)
  (T : Turned o w bs S' w') (hG : GS S' t') : WAt w0 fx bs bb w' S' t' B ∧ Mod (fun k => w0.heap.size ≤ k ∧ ¬ fx k) w w' := by
 obtain ⟨o', p', C', hk, hm⟩ := C.turnN T hG
 have hz := hm.size
 refine ⟨⟨o', p', fun k => U k ∧ k < w.heap.size, C', (hb.mono (U' := fun k => U k ∧ k < w.heap.size) fun k hk hu => ⟨hu, hk⟩).mod hm fun k hk' hne => hne (hU k hk'.1).2.1, fun k hk' => ⟨(hU k hk'.1).1, hk k hk'.2 (hU k hk'.1).2.1, (hU k hk'.1).2.2⟩, fun k hk' => ⟨(hf k hk').1, by have := (hf k hk').2.1; omega, hk k (hf k hk').2.1 (hf k hk').2.2⟩⟩, hm.mono fun k _ hne => ⟨?_, fun h => hne (hf k h).2.2⟩⟩
 rcases Nat.lt_or_ge k w0.heap.size with h | h
 ·exact absurd (C.lo k h) hne
 ·exact h
theorem WAt.badged {w0 : World} {fx : Nat → Prop} {bs bb : Nat} {w w' : World} {S : SM} {t : Nat} {B' : BdM} {o : Lab} {p : Ptrs} {U : Nat → Prop} (C : Cur w0 o w bs p S t) (hU : ∀ k, U k → w0.heap.size ≤ k ∧ o k = none ∧ ¬ fx k) (hf : ∀ k, fx k → w0.heap.size ≤ k ∧ k < w.heap.size ∧ o k = none)
  (hb : BdAt (fun k => U k ∨ w.heap.size ≤ k) w' bb B') (hm : Mod U w w') : WAt w0 fx bs bb w' S t B' ∧ Mod (fun k => w0.heap.size ≤ k ∧ ¬ fx k) w w' := by
 have hz := hm.size
 have hz0 := C.same.size
 refine ⟨⟨o, p, fun k => U k ∨ w.heap.size ≤ k, C.modQ hm fun k hk => ⟨(hU k hk).1, (hU k hk).2.1⟩, hb, fun k hk => ?_, fun k hk => ⟨(hf k hk).1, by have := (hf k hk).2.1; omega, (hf k hk).2.2⟩⟩, hm.mono fun k _ hu => ⟨(hU k hu).1, (hU k hu).2.2⟩⟩
 rcases hk with h | h
 ·exact hU k h
 ·exact ⟨by omega, C.hi k h, fun hx => by have := (hf k hx).2.1; omega⟩
theorem GS.more {S : SM} {t t' : Nat} (h : GS S t) (ht : t ≤ t') : GS S t' := by
 induction ht with
 | refl => exact h
 | step _ ih => exact ih.succ
structure Link (S : SM) (B : BdM) : Prop where
 live : ∀ x ∈ B.l, ∃ i : Nat, x.2.i = (i : Int) ∧ S.gens[i]? = some (x.2.g, true)
 all : ∀ (i : Nat) (g : Int), S.gens[i]? = some (g, true) → ∃ n, ∃ e : EK, (n, e) ∈ B.l ∧ e.i = (i : Int) ∧ e.g = g
 tm : S.tabs.length = S.masks.length
 cnt : S.free.length + B.l.length = S.gens.length
theorem Link.find {S : SM} {B : BdM} (h : Link S B) (x : Int) : (∃ y, B.l.find? (fun y => decide (((y.1 : Nat) : Int) = x)) = some y ∧ y ∈ B.l ∧ ((y.1 : Nat) : Int) = x) ∨ B.l.find? (fun y => decide (((y.1 : Nat) : Int) = x)) = none := by
 cases hf : B.l.find? (fun y => decide (((y.1 : Nat) : Int) = x)) with
 | none => exact .inr rfl
 | some y =>
  refine .inl ⟨y, rfl, List.mem_of_find?_eq_some hf, ?_⟩
  have := List.find?_some hf
  simpa using this
end
section
def viewS (S : SM) (B : BdM) : List (Nat × List Part) := B.l.map fun x => (x.1, partsOf S x.2.i.toNat)
def findV (V : List (Nat × List Part)) (x : Int) : Option (Nat × List Part) := V.find? fun y => decide (((y.1 : Nat) : Int) = x)
def setV (V : List (Nat × List Part)) (n : Nat) (L : List Part) : List (Nat × List Part) := V.map fun y => if y.1 = n then (n, L) else y
theorem findV_view (S : SM) (B : BdM) (x : Int) : findV (viewS S B) x = (B.l.find? fun y => decide (((y.1 : Nat) : Int) = x)).map fun y => (y.1, partsOf S y.2.i.toNat) := by
 unfold findV viewS
 rw [List.find?_map]
 rfl
theorem nd_key {B : BdM} (h : B.WF) {a b : Nat × EK} (ha : a ∈ B.l) (hb : b ∈ B.l) (e : a.2 = b.2) : a = b := by
 obtain ⟨i, hi, rfl⟩ := List.mem_iff_getElem.1 ha
 obtain ⟨j, hj, rfl⟩ := List.mem_iff_getElem.1 hb
 have h1 : (B.l.map (·.2))[i]? = some (B.l[i]).2 := by rw [List.getElem?_map, List.getElem?_eq_getElem hi]; rfl
 have h2 : (B.l.map (·.2))[j]? = some (B.l[j]).2 := by rw [List.getElem?_map, List.getElem?_eq_getElem hj]; rfl
 have hij : i = j := (List.getElem?_inj (by simpa using hi) h.nd).1 (by rw [h1, e]; exact h2.symm)
 subst hij; rfl
theorem nd_num {B : BdM} (h : B.WF) {a b : Nat × EK} (ha : a ∈ B.l) (hb : b ∈ B.l) (e : a.1 = b.1) : a = b := by
 obtain ⟨i, hi, rfl⟩ := List.mem_iff_getElem.1 ha
 obtain ⟨j, hj, rfl⟩ := List.mem_iff_getElem.1 hb
 have hnd : (B.l.map (·.1)).Nodup := h.asc.imp fun h e => by omega
 have h1 : (B.l.map (·.1))[i]? = some (B.l[i]).1 := by rw [List.getElem?_map, List.getElem?_eq_getElem hi]; rfl
 have h2 : (B.l.map (·.1))[j]? = some (B.l[j]).1 := by rw [List.getElem?_map, List.getElem?_eq_getElem hj]; rfl
 have hij : i = j := (List.getElem?_inj (by simpa using hi) hnd).1 (by rw [h1, e]; exact h2.symm)
 subst hij; rfl
theorem Link.index {S : SM} {B : BdM} (h : Link S B) {a b : Nat × EK} (ha : a ∈ B.l) (hb : b ∈ B.l) (e : a.2.i = b.2.i) : a.2 = b.2 := by
 obtain ⟨i, h1, h2⟩ := h.live a ha
 obtain ⟨j, h3, h4⟩ := h.live b hb
 have hij : i = j := by omega
 subst hij
 rw [h2] at h4
 have : a.2.g = b.2.g := by simpa using h4
 exact EK.ext e this
theorem Link.born {S S' : SM} {B : BdM} (h : Link S B) (hfr : S.free ≠ []) {L' : List Part} {i : Nat} {g : Int} {g0 : Int} (hb : Born S S' L' i g) (hg : S.gens[i]? = some (g0, false)) {e : EK} (h1 : e.i = (i : Int)) (h2 : e.g = g) : Link S' ⟨B.l ++ [(B.nx, e)], B.nx + 1⟩ where
 live x hx := by
  have hil := (List.getElem?_eq_some_iff.1 hg).1
  rcases List.mem_append.1 hx with hx | hx
  ·obtain ⟨j, h3, h4⟩ := h.live x hx
   refine ⟨j, h3, ?_⟩
   rw [hb.gens, List.getElem?_set_ne (fun e => ?_)]
   ·exact h4
   ·subst e; rw [hg] at h4; cases h4
  ·have hx : x = (B.nx, e) := by simpa using hx
   subst hx
   refine ⟨i, h1, ?_⟩
   rw [hb.gens, List.getElem?_set, if_pos rfl, if_pos hil, h2]
 all j gj hj := by
  by_cases hji : i = j
  ·subst hji
   refine ⟨B.nx, e, by simp, h1, ?_⟩
   rw [hb.gens, List.getElem?_set, if_pos rfl] at hj
   split at hj
   ·have : g = gj := by simpa using hj
    rw [h2, this]
   ·cases hj
  ·rw [hb.gens, List.getElem?_set_ne hji] at hj
   obtain ⟨n, e', h3, h4, h5⟩ := h.all j gj hj
   exact ⟨n, e', List.mem_append_left _ h3, h4, h5⟩
 tm := hb.tabs
 cnt := by
  have h1 := h.cnt
  have h2 : 0 < S.free.length := List.length_pos_iff.2 hfr
  rw [hb.free, hb.gens, List.length_dropLast, List.length_set, List.length_append, List.length_singleton]
  omega
theorem view_born {S S' : SM} {B : BdM} (h : Link S B) {L' : List Part} {i : Nat} {g : Int} {g0 : Int} (hb : Born S S' L' i g) (hg : S.gens[i]? = some (g0, false)) {e : EK} (h1 : e.i = (i : Int)) : viewS S' ⟨B.l ++ [(B.nx, e)], B.nx + 1⟩ = viewS S B ++ [(B.nx, L')] := by
 unfold viewS
 rw [List.map_append]
 congr 1
 ·apply List.map_congr_left
  intro x hx
  obtain ⟨j, h3, h4⟩ := h.live x hx
  rw [h3, Int.toNat_natCast, hb.others j _ (fun e => ?_) h4]
  subst e; rw [hg] at h4; cases h4
 ·show [(B.nx, partsOf S' e.i.toNat)] = _
  rw [h1, Int.toNat_natCast, hb.parts]
end
end Go.Proofs.YtenokhokboicnaaGreatDoor
section

end
namespace Go.Proofs.YtenokhokboicnaaGreatDoor
open Go Go.Ev Go.Sort Go.RowKit
section
attribute [local irreducible] kO kB kStr kInt kN kG kIf kfld kld kldN kst knew kmap kbld kbldS kext kcnv klenStr klen kcap kprt kprtN kbool kint kstr keq kun ksl kix kiv kta kmk kmm ksem ksemU kextf kcallV kcallM kcall kL
theorem bdNext {U : Nat → Prop} {w : World} {b : Nat} {B : BdM} (h : BdAt U w b B) : Meets Tryz.prog 74 #[.pointer (some ⟨b, 0, none⟩)] w fun v w' => v = natV B.nx ∧ w' = w := by
 obtain ⟨bo, bi, sv, h⟩ := h
 have hh := h.here
 refine f74_ok ?_
 unfold f74
 rw [keq_ptr_nil ptBad]
 refine kB_at ?_
 refine kIf_F rfl ?_
 unfold f74_0
 refine kN_at ?_
 refine kfld_of ?_
 refine kld_of (v := natV B.nx) hh rfl ?_
 exact ⟨rfl, rfl⟩
end
end Go.Proofs.YtenokhokboicnaaGreatDoor
namespace Go.Proofs.YtenokhokboicnaaGreatDoor
open Go Go.Ev
section
def f32_2 (x2 x3 x8 x10 x11 : Value) (Q : PQ) (w : World) : Prop :=
 kldN 2 x11 w.drew fun v33 =>
 kG (w.drew = w.drew) <|
 kcall Tryz.prog 67 #[] w.drew fun v34 w35 =>
 kG (kldN 2 x11 w35 fun v44 =>
 v44 = v33 ∧ w35 = w35) <|
 kldN 2 x3 w35 fun v36 =>
 kG (w35 = w35) <|
 kG (kldN 2 x3 w.drew fun v43 =>
 v43 = v36 ∧ w.drew = w.drew) <|
 kcall Tryz.prog 68 #[v36] w35 fun v37 w38 =>
 kG (kldN 2 x11 w38 fun v42 =>
 v42 = v33 ∧ w38 = w38) <|
 kbld [.slice none 0 0, .slice none 0 0, .pointer none, .pointer none, .pointer none, .int .u32 0, .int .i64 0, .int .i64 0, .pointer none] [(0, 2, v33), (2, 1, x8), (3, 1, v34), (4, 1, x10), (5, 1, v37), (7, 1, x2)] fun v39 =>
 knew (Value.cells v39) 160 w38 fun v40 w41 =>
 Q (.tuple #[v40, .nilIface]) w41
def f32_1 (x2 x3 x8 x10 : Value) (Q : PQ) (w : World) : Prop :=
 (kfld 0 x3 fun v21 =>
 kld v21 w.drew fun v22 =>
 kG (w.drew = w.drew) <|
 kcall Tryz.prog 65 #[v22] w.drew fun v23 w24 =>
 (kfld 1 x3 fun v25 =>
 kld v25 w24 fun v26 =>
 kG (w24 = w24) <|
 kG (kld v25 w.drew fun v47 =>
 v47 = v26 ∧ w.drew = w.drew) <|
 kcall Tryz.prog 66 #[v26] w24 fun v27 w28 =>
 knew #[.slice none 0 0, .slice none 0 0] 25 w28 fun v29 w30 =>
 kG (kld v25 w30 fun v46 =>
 v46 = v26 ∧ w30 = w30) <|
 kG (kld v21 w30 fun v45 =>
 v45 = v22 ∧ w30 = w30) <|
 kbld [.slice none 0 0, .slice none 0 0] [(0, 1, v23), (1, 1, v27)] fun v31 =>
 kst 2 v29 v31 w30 fun w32 =>
 f32_2 x2 x3 x8 x10 v29 Q w32) ∧
 (knew #[.slice none 0 0, .slice none 0 0] 25 w24 fun v48 w49 =>
 kG (kld v21 w49 fun v58 =>
 v58 = v22 ∧ w49 = w49) <|
 kfld 1 x3 fun v50 =>
 kld v50 w49 fun v51 =>
 kG (w49 = w49) <|
 kG (kld v50 w24 fun v57 =>
 v57 = v51 ∧ w24 = w24) <|
 kG (kld v50 w.drew fun v56 =>
 v56 = v51 ∧ w.drew = w.drew) <|
 kcall Tryz.prog 66 #[v51] w49 fun v52 w53 =>
 kbld [.slice none 0 0, .slice none 0 0] [(0, 1, v23), (1, 1, v52)] fun v54 =>
 kst 2 v48 v54 w53 fun w55 =>
 f32_2 x2 x3 x8 x10 v48 Q w55)) ∧
 (knew #[.slice none 0 0, .slice none 0 0] 25 w.drew fun v59 w60 =>
 kfld 0 x3 fun v61 =>
 kld v61 w60 fun v62 =>
 kG (w60 = w60) <|
 kG (kld v61 w.drew fun v73 =>
 v73 = v62 ∧ w.drew = w.drew) <|
 kcall Tryz.prog 65 #[v62] w60 fun v63 w64 =>
 kfld 1 x3 fun v65 =>
 kld v65 w64 fun v66 =>
 kG (w64 = w64) <|
 kG (kld v65 w60 fun v72 =>
 v72 = v66 ∧ w60 = w60) <|
 kG (kld v65 w.drew fun v71 =>
 v71 = v66 ∧ w.drew = w.drew) <|
 kcall Tryz.prog 66 #[v66] w64 fun v67 w68 =>
 kbld [.slice none 0 0, .slice none 0 0] [(0, 1, v63), (1, 1, v67)] fun v69 =>
 kst 2 v59 v69 w68 fun w70 =>
 f32_2 x2 x3 x8 x10 v59 Q w70)
def f32_0 (x2 x3 x8 : Value) (Q : PQ) (w : World) : Prop :=
 kldN 2 x3 w fun v12 =>
 kcall Tryz.prog 64 #[v12] w fun v13 w14 =>
 kext v13 0 fun v15 =>
 kext v13 1 fun v16 =>
 keq Tryz.prog .neq 33 false true v16 .nilIface w14 fun v17 w18 =>
 kB v17 fun b74 => kIf b74
 (kcall Tryz.prog 63 #[v16] w18 fun v19 w20 =>
 Q (.tuple #[.pointer none, v19]) w20)
 (f32_1 x2 x3 x8 v15 Q w18)
def f32 (x0 x1 x2 : Value) (Q : PQ) (w : World) : Prop :=
 knew (Value.cells x0) 25 w fun v1 w2 =>
 kldN 2 v1 w2 fun v3 =>
 kcall Tryz.prog 62 #[v3, x1] w2 fun v4 w5 =>
 kext v4 0 fun v6 =>
 kext v4 1 fun v7 =>
 keq Tryz.prog .neq 33 false true v7 .nilIface w5 fun v8 w9 =>
 kB v8 fun b75 => kIf b75
 (kcall Tryz.prog 63 #[v7] w9 fun v10 w11 =>
 Q (.tuple #[.pointer none, v10]) w11)
 (f32_0 x2 v1 v6 Q w9)
theorem f32_ok {x0 x1 x2 : Value} {Q : PQ} {w : World} (h : f32 x0 x1 x2 Q w) : Meets Tryz.prog 32 #[x0, x1, x2] w Q :=
 sound' (c := Tryz.f32.body.get rfl) [] Tryz.func32 rfl rfl (args := [x0, x1, x2]) rfl (by kernel_rfl) h
def f63 (x0 : Value) (Q : PQ) (w : World) : Prop :=
 kcall Tryz.prog 25 #[(.string ⟨#[119, 111, 114, 108, 100]⟩), x0] w fun v1 w2 =>
 Q v1 w2
theorem f63_ok {x0 : Value} {Q : PQ} {w : World} (h : f63 x0 Q w) : Meets Tryz.prog 63 #[x0] w Q :=
 sound' (c := Tryz.f63.body.get rfl) [] Tryz.func63 rfl rfl (args := [x0]) rfl (by kernel_rfl) h
def f71 (x0 x1 : Value) (Q : PQ) (w : World) : Prop :=
 knew (Value.cells x1) 174 w fun v1 w2 =>
 kN x0 <|
 kfld 8 x0 fun v3 =>
 kld v3 w2 fun v4 =>
 keq Tryz.prog .neq 158 false true v4 (.pointer none) w2 fun v5 w6 =>
 kB v5 fun b12 => kIf b12
 (kN x0 <|
 kfld 8 x0 fun v7 =>
 kld v7 w6.drew fun v8 =>
 kG (w6.drew = w6.drew) <|
 kldN 11 v1 w6.drew fun v9 =>
 kG (w6.drew = w6.drew) <|
 kcall Tryz.prog 125 #[v8, v9] w6.drew fun v10 w11 =>
 Q (.tuple #[]) w11)
 (Q (.tuple #[]) w6)
theorem f71_ok {x0 x1 : Value} {Q : PQ} {w : World} (h : f71 x0 x1 Q w) : Meets Tryz.prog 71 #[x0, x1] w Q :=
 sound' (c := Tryz.f71.body.get rfl) [] Tryz.func71 rfl rfl (args := [x0, x1]) rfl (by kernel_rfl) h
def f197 (x0 x1 x2 x3 : Value) (Q : PQ) (w : World) : Prop :=
 knew (Value.cells x3) 102 w fun v1 w2 =>
 kN x0 <|
 kfld 5 x0 fun v3 =>
 kld v3 w2.drew fun v4 =>
 kG (w2.drew = w2.drew) <|
 kfld 0 v1 fun v5 =>
 kld v5 w2.drew fun v6 =>
 kG (w2.drew = w2.drew) <|
 kcall Tryz.prog 184 #[v4, v6] w2.drew fun v7 w8 =>
 kB v7 fun b13 => kIf b13
 (kldN 6 v1 w8 fun v9 =>
 kbld [.int .i64 0, .int .i64 0, .int .i64 0, .int .i64 0, .int .i64 0, .int .i64 0, .int .i64 0, .int .i64 0, .slice none 0 0, .int .i64 0, .int .i64 0] [(0, 1, x1), (1, 1, x2), (2, 6, v9)] fun v10 =>
 kcall Tryz.prog 71 #[x0, v10] w8 fun v11 w12 =>
 Q (.tuple #[]) w12)
 (Q (.tuple #[]) w8)
theorem f197_ok {x0 x1 x2 x3 : Value} {Q : PQ} {w : World} (h : f197 x0 x1 x2 x3 Q w) : Meets Tryz.prog 197 #[x0, x1, x2, x3] w Q :=
 sound' (c := Tryz.f197.body.get rfl) [] Tryz.func197 rfl rfl (args := [x0, x1, x2, x3]) rfl (by kernel_rfl) h
def f195_1 (x4 x6 : Value) (Q : PQ) (w : World) : Prop :=
 kldN 2 x6 w fun v27 =>
 kst 2 x4 v27 w fun w28 =>
 kldN 2 x4 w28 fun v29 =>
 Q (.tuple #[v29, .nilIface]) w28
def f195_0 (x0 x1 x4 : Value) (Q : PQ) (w : World) : Prop :=
 kN x0 <|
 kfld 3 x0 fun v11 =>
 kld v11 w fun v12 =>
 kcall Tryz.prog 228 #[v12, x1] w fun v13 w14 =>
 kext v13 0 fun v15 =>
 kext v13 1 fun v16 =>
 knew #[.int .i64 0, .int .i64 0] 176 w14 fun v17 w18 =>
 kst 2 v17 v15 w18 fun w19 =>
 kun .not (some .bool) v16 fun v20 =>
 kB v20 fun b30 => kIf b30
 (kbld [.int .i64 0, .int .i64 0] [] fun v21 =>
 kld (.pointer (some ⟨16, 0, none⟩)) w19 fun v22 =>
 kcall Tryz.prog 63 #[v22] w19 fun v23 w24 =>
 kst 2 x4 v21 w24 fun w25 =>
 kldN 2 x4 w25 fun v26 =>
 Q (.tuple #[v26, v23]) w25)
 (f195_1 x4 v17 Q w19)
def f195 (x0 x1 : Value) (Q : PQ) (w : World) : Prop :=
 knew #[.int .i64 0, .int .i64 0] 176 w fun v1 w2 =>
 keq Tryz.prog .eql 50 false true x0 (.pointer none) w2 fun v3 w4 =>
 kB v3 fun b31 => kIf b31
 (kbld [.int .i64 0, .int .i64 0] [] fun v5 =>
 kld (.pointer (some ⟨4, 0, none⟩)) w4 fun v6 =>
 kcall Tryz.prog 63 #[v6] w4 fun v7 w8 =>
 kst 2 v1 v5 w8 fun w9 =>
 kldN 2 v1 w9 fun v10 =>
 Q (.tuple #[v10, v7]) w9)
 (f195_0 x0 x1 v1 Q w4)
theorem f195_ok {x0 x1 : Value} {Q : PQ} {w : World} (h : f195 x0 x1 Q w) : Meets Tryz.prog 195 #[x0, x1] w Q :=
 sound' (c := Tryz.f195.body.get rfl) [] Tryz.func195 rfl rfl (args := [x0, x1]) rfl (by kernel_rfl) h
def f38_2 (x0 x8 x9 : Value) (Q : PQ) (w : World) : Prop :=
 kbld [.int .i64 0, .int .i64 0, .int .i64 0, .int .i64 0, .int .i64 0, .int .i64 0, .int .i64 0, .int .i64 0, .slice none 0 0, .int .i64 0, .int .i64 0] [(0, 1, (.int .i64 7)), (10, 1, x8)] fun v39 =>
 kcall Tryz.prog 71 #[x0, v39] w fun v40 w41 =>
 kbld [.int .i64 0, .int .i64 0, .int .i64 0, .int .i64 0, .int .i64 0, .int .i64 0, .int .i64 0, .int .i64 0, .slice none 0 0, .int .i64 0, .int .i64 0] [(0, 1, (.int .i64 2)), (1, 1, x9)] fun v42 =>
 kcall Tryz.prog 71 #[x0, v42] w41 fun v43 w44 =>
 Q (.tuple #[x9, .nilIface]) w44
def f38_1 (x0 x6 : Value) (Q : PQ) (w : World) : Prop :=
 kN x0 <|
 kfld 3 x0 fun v19 =>
 kld v19 w fun v20 =>
 kcall Tryz.prog 74 #[v20] w fun v21 w22 =>
 kN x0 <|
 kfld 3 x0 fun v23 =>
 kld v23 w22.drew fun v24 =>
 kG (w22.drew = w22.drew) <|
 kldN 2 x6 w22.drew fun v25 =>
 kG (w22.drew = w22.drew) <|
 kcall Tryz.prog 75 #[v24, v25] w22.drew fun v26 w27 =>
 kext v26 0 fun v28 =>
 kext v26 1 fun v29 =>
 keq Tryz.prog .neq 33 false true v29 .nilIface w27 fun v30 w31 =>
 kB v30 fun b45 => kIf b45
 (kN x0 <|
 kfld 2 x0 fun v32 =>
 kld v32 w31.drew fun v33 =>
 kG (w31.drew = w31.drew) <|
 kldN 2 x6 w31.drew fun v34 =>
 kG (w31.drew = w31.drew) <|
 kcall Tryz.prog 76 #[v33, v34] w31.drew fun v35 w36 =>
 kcall Tryz.prog 63 #[v29] w36 fun v37 w38 =>
 Q (.tuple #[.int .i64 0, v37]) w38)
 (f38_2 x0 v21 v28 Q w31)
def f38_0 (x0 x1 : Value) (Q : PQ) (w : World) : Prop :=
 kN x0 <|
 kfld 2 x0 fun v6 =>
 kld v6 w fun v7 =>
 kcall Tryz.prog 73 #[v7, x1] w fun v8 w9 =>
 kext v8 0 fun v10 =>
 kext v8 1 fun v11 =>
 knew #[.int .i64 0, .int .i64 0] 176 w9 fun v12 w13 =>
 kst 2 v12 v10 w13 fun w14 =>
 keq Tryz.prog .neq 33 false true v11 .nilIface w14 fun v15 w16 =>
 kB v15 fun b46 => kIf b46
 (kcall Tryz.prog 63 #[v11] w16 fun v17 w18 =>
 Q (.tuple #[.int .i64 0, v17]) w18)
 (f38_1 x0 v12 Q w16)
def f38 (x0 x1 : Value) (Q : PQ) (w : World) : Prop :=
 keq Tryz.prog .eql 50 false true x0 (.pointer none) w fun v1 w2 =>
 kB v1 fun b47 => kIf b47
 (kld (.pointer (some ⟨4, 0, none⟩)) w2 fun v3 =>
 kcall Tryz.prog 63 #[v3] w2 fun v4 w5 =>
 Q (.tuple #[.int .i64 0, v4]) w5)
 (f38_0 x0 x1 Q w2)
theorem f38_ok {x0 x1 : Value} {Q : PQ} {w : World} (h : f38 x0 x1 Q w) : Meets Tryz.prog 38 #[x0, x1] w Q :=
 sound' (c := Tryz.f38.body.get rfl) [] Tryz.func38 rfl rfl (args := [x0, x1]) rfl (by kernel_rfl) h
def f192_2 (x6 x10 : Value) (Q : PQ) (w : World) : Prop :=
 kldN 6 x10 w fun v32 =>
 kst 6 x6 v32 w fun w33 =>
 kldN 6 x6 w33 fun v34 =>
 Q (.tuple #[v34, .nilIface]) w33
def f192_1 (x6 x9 x10 : Value) (Q : PQ) (w : World) : Prop :=
 keq Tryz.prog .neq 33 false true x9 .nilIface w fun v25 w26 =>
 kB v25 fun b35 => kIf b35
 (kbld [.int .i64 0, .int .i64 0, .int .i64 0, .int .i64 0, .int .i64 0, .int .i64 0] [] fun v27 =>
 kcall Tryz.prog 63 #[x9] w26 fun v28 w29 =>
 kst 6 x6 v27 w29 fun w30 =>
 kldN 6 x6 w30 fun v31 =>
 Q (.tuple #[v31, v28]) w30)
 (f192_2 x6 x10 Q w26)
def f192_0 (x0 x2 x6 x8 : Value) (Q : PQ) (w : World) : Prop :=
 (kN x0 <|
 kfld 2 x0 fun v15 =>
 kld v15 w.drew fun v16 =>
 kG (w.drew = w.drew) <|
 kldN 2 x8 w.drew fun v17 =>
 kG (w.drew = w.drew) <|
 kcall Tryz.prog 225 #[v16, v17, x2] w.drew fun v18 w19 =>
 knew #[.int .i64 0, .int .i64 0, .int .i64 0, .int .i64 0, .int .i64 0, .int .i64 0] 102 w19 fun v20 w21 =>
 kG (kldN 2 x8 w21 fun v37 =>
 v37 = v17 ∧ w21 = w21) <|
 kG (kld v15 w21 fun v36 =>
 v36 = v16 ∧ w21 = w21) <|
 kext v18 0 fun v22 =>
 kst 6 v20 v22 w21 fun w23 =>
 kext v18 1 fun v24 =>
 f192_1 x6 v24 v20 Q w23) ∧
 (knew #[.int .i64 0, .int .i64 0, .int .i64 0, .int .i64 0, .int .i64 0, .int .i64 0] 102 w.drew fun v38 w39 =>
 kN x0 <|
 kfld 2 x0 fun v40 =>
 kld v40 w39 fun v41 =>
 kG (w39 = w39) <|
 kG (kld v40 w.drew fun v49 =>
 v49 = v41 ∧ w.drew = w.drew) <|
 kldN 2 x8 w39 fun v42 =>
 kG (w39 = w39) <|
 kG (kldN 2 x8 w.drew fun v48 =>
 v48 = v42 ∧ w.drew = w.drew) <|
 kcall Tryz.prog 225 #[v41, v42, x2] w39 fun v43 w44 =>
 kext v43 0 fun v45 =>
 kst 6 v38 v45 w44 fun w46 =>
 kext v43 1 fun v47 =>
 f192_1 x6 v47 v38 Q w46)
def f192 (x0 x1 x2 : Value) (Q : PQ) (w : World) : Prop :=
 knew #[.int .i64 0, .int .i64 0, .int .i64 0, .int .i64 0, .int .i64 0, .int .i64 0] 102 w fun v1 w2 =>
 kcall Tryz.prog 195 #[x0, x1] w2 fun v3 w4 =>
 kext v3 0 fun v5 =>
 kext v3 1 fun v6 =>
 knew #[.int .i64 0, .int .i64 0] 176 w4 fun v7 w8 =>
 kst 2 v7 v5 w8 fun w9 =>
 keq Tryz.prog .neq 33 false true v6 .nilIface w9 fun v10 w11 =>
 kB v10 fun b50 => kIf b50
 (kbld [.int .i64 0, .int .i64 0, .int .i64 0, .int .i64 0, .int .i64 0, .int .i64 0] [] fun v12 =>
 kst 6 v1 v12 w11 fun w13 =>
 kldN 6 v1 w13 fun v14 =>
 Q (.tuple #[v14, v6]) w13)
 (f192_0 x0 x2 v1 v7 Q w11)
theorem f192_ok {x0 x1 x2 : Value} {Q : PQ} {w : World} (h : f192 x0 x1 x2 Q w) : Meets Tryz.prog 192 #[x0, x1, x2] w Q :=
 sound' (c := Tryz.f192.body.get rfl) [] Tryz.func192 rfl rfl (args := [x0, x1, x2]) rfl (by kernel_rfl) h
def f142_0 (x0 : Value) (Q : PQ) (w : World) : Prop :=
 kN x0 <|
 kfld 6 x0 fun v3 =>
 kld v3 w fun v4 =>
 Q v4 w
def f142 (x0 : Value) (Q : PQ) (w : World) : Prop :=
 keq Tryz.prog .eql 50 false true x0 (.pointer none) w fun v1 w2 =>
 kB v1 fun b5 => kIf b5
 (Q (.int .i64 0) w2)
 (f142_0 x0 Q w2)
theorem f142_ok {x0 : Value} {Q : PQ} {w : World} (h : f142 x0 Q w) : Meets Tryz.prog 142 #[x0] w Q :=
 sound' (c := Tryz.f142.body.get rfl) [] Tryz.func142 rfl rfl (args := [x0]) rfl (by kernel_rfl) h
def f144_2 (x0 x1 x13 : Value) (Q : PQ) (w : World) : Prop :=
 kldN 6 x13 w fun v26 =>
 kcall Tryz.prog 197 #[x0, .int .i64 1, x1, v26] w fun v27 w28 =>
 Q .nilIface w28
def f144_1 (x0 x1 x12 x13 : Value) (Q : PQ) (w : World) : Prop :=
 keq Tryz.prog .neq 33 false true x12 .nilIface w fun v22 w23 =>
 kB v22 fun b29 => kIf b29
 (kcall Tryz.prog 63 #[x12] w23 fun v24 w25 =>
 Q v24 w25)
 (f144_2 x0 x1 x13 Q w23)
def f144_0 (x0 x1 x2 x3 x4 x11 : Value) (Q : PQ) (w : World) : Prop :=
 (kN x0 <|
 kfld 2 x0 fun v10 =>
 kld v10 w.drew fun v11 =>
 kG (w.drew = w.drew) <|
 kldN 2 x11 w.drew fun v12 =>
 kG (w.drew = w.drew) <|
 kN x0 <|
 kfld 6 x0 fun v13 =>
 kld v13 w.drew fun v14 =>
 kG (w.drew = w.drew) <|
 kcall Tryz.prog 196 #[v11, v12, x2, x3, x4, v14] w.drew fun v15 w16 =>
 knew #[.int .i64 0, .int .i64 0, .int .i64 0, .int .i64 0, .int .i64 0, .int .i64 0] 102 w16 fun v17 w18 =>
 kG (kld v13 w18 fun v32 =>
 v32 = v14 ∧ w18 = w18) <|
 kG (kldN 2 x11 w18 fun v31 =>
 v31 = v12 ∧ w18 = w18) <|
 kG (kld v10 w18 fun v30 =>
 v30 = v11 ∧ w18 = w18) <|
 kext v15 0 fun v19 =>
 kst 6 v17 v19 w18 fun w20 =>
 kext v15 1 fun v21 =>
 f144_1 x0 x1 v21 v17 Q w20) ∧
 (knew #[.int .i64 0, .int .i64 0, .int .i64 0, .int .i64 0, .int .i64 0, .int .i64 0] 102 w.drew fun v33 w34 =>
 kN x0 <|
 kfld 2 x0 fun v35 =>
 kld v35 w34 fun v36 =>
 kG (w34 = w34) <|
 kG (kld v35 w.drew fun v47 =>
 v47 = v36 ∧ w.drew = w.drew) <|
 kldN 2 x11 w34 fun v37 =>
 kG (w34 = w34) <|
 kG (kldN 2 x11 w.drew fun v46 =>
 v46 = v37 ∧ w.drew = w.drew) <|
 kN x0 <|
 kfld 6 x0 fun v38 =>
 kld v38 w34 fun v39 =>
 kG (w34 = w34) <|
 kG (kld v38 w.drew fun v45 =>
 v45 = v39 ∧ w.drew = w.drew) <|
 kcall Tryz.prog 196 #[v36, v37, x2, x3, x4, v39] w34 fun v40 w41 =>
 kext v40 0 fun v42 =>
 kst 6 v33 v42 w41 fun w43 =>
 kext v40 1 fun v44 =>
 f144_1 x0 x1 v44 v33 Q w43)
def f144 (x0 x1 x2 x3 x4 : Value) (Q : PQ) (w : World) : Prop :=
 kcall Tryz.prog 195 #[x0, x1] w fun v1 w2 =>
 kext v1 0 fun v3 =>
 kext v1 1 fun v4 =>
 knew #[.int .i64 0, .int .i64 0] 176 w2 fun v5 w6 =>
 kst 2 v5 v3 w6 fun w7 =>
 keq Tryz.prog .neq 33 false true v4 .nilIface w7 fun v8 w9 =>
 kB v8 fun b48 => kIf b48
 (Q v4 w9)
 (f144_0 x0 x1 x2 x3 x4 v5 Q w9)
theorem f144_ok {x0 x1 x2 x3 x4 : Value} {Q : PQ} {w : World} (h : f144 x0 x1 x2 x3 x4 Q w) : Meets Tryz.prog 144 #[x0, x1, x2, x3, x4] w Q :=
 sound' (c := Tryz.f144.body.get rfl) [] Tryz.func144 rfl rfl (args := [x0, x1, x2, x3, x4]) rfl (by kernel_rfl) h
def f145_1 (x0 x1 x7 : Value) (Q : PQ) (w : World) : Prop :=
 kbld [.int .i64 0, .int .i64 0, .int .i64 0, .int .i64 0, .int .i64 0, .int .i64 0, .int .i64 0, .int .i64 0, .slice none 0 0, .int .i64 0, .int .i64 0] [(0, 1, (.int .i64 6)), (9, 1, x1), (10, 1, x7)] fun v16 =>
 kcall Tryz.prog 71 #[x0, v16] w fun v17 w18 =>
 Q .nilIface w18
def f145_0 (x0 x1 x2 : Value) (Q : PQ) (w : World) : Prop :=
 kN x0 <|
 kfld 4 x0 fun v6 =>
 kld v6 w fun v7 =>
 kcall Tryz.prog 198 #[v7, x1, x2] w fun v8 w9 =>
 kext v8 0 fun v10 =>
 kext v8 1 fun v11 =>
 keq Tryz.prog .neq 33 false true v11 .nilIface w9 fun v12 w13 =>
 kB v12 fun b19 => kIf b19
 (kcall Tryz.prog 63 #[v11] w13 fun v14 w15 =>
 Q v14 w15)
 (f145_1 x0 x1 v10 Q w13)
def f145 (x0 x1 x2 : Value) (Q : PQ) (w : World) : Prop :=
 keq Tryz.prog .eql 50 false true x0 (.pointer none) w fun v1 w2 =>
 kB v1 fun b20 => kIf b20
 (kld (.pointer (some ⟨4, 0, none⟩)) w2 fun v3 =>
 kcall Tryz.prog 63 #[v3] w2 fun v4 w5 =>
 Q v4 w5)
 (f145_0 x0 x1 x2 Q w2)
theorem f145_ok {x0 x1 x2 : Value} {Q : PQ} {w : World} (h : f145 x0 x1 x2 Q w) : Meets Tryz.prog 145 #[x0, x1, x2] w Q :=
 sound' (c := Tryz.f145.body.get rfl) [] Tryz.func145 rfl rfl (args := [x0, x1, x2]) rfl (by kernel_rfl) h
def f143_0 (x0 x1 : Value) (Q : PQ) (w : World) : Prop :=
 kN x0 <|
 kfld 7 x0 fun v6 =>
 kld v6 w fun v7 =>
 kbld [.int .i64 0, .int .i64 0, .int .i64 0, .int .i64 0, .int .i64 0, .int .i64 0, .int .i64 0, .int .i64 0, .slice none 0 0, .int .i64 0, .int .i64 0] [(0, 1, (.int .i64 8)), (10, 1, v7)] fun v8 =>
 kcall Tryz.prog 71 #[x0, v8] w fun v9 w10 =>
 kN x0 <|
 kfld 7 x0 fun v11 =>
 kld v11 w10 fun v12 =>
 kcall Tryz.prog 194 #[v12, x1] w10 fun v13 w14 =>
 kext v13 0 fun v15 =>
 kext v13 1 fun v16 =>
 kN x0 <|
 kfld 7 x0 fun v17 =>
 kst 1 v17 v15 w14 fun w18 =>
 Q (.tuple #[v16, .nilIface]) w18
def f143 (x0 x1 : Value) (Q : PQ) (w : World) : Prop :=
 keq Tryz.prog .eql 50 false true x0 (.pointer none) w fun v1 w2 =>
 kB v1 fun b19 => kIf b19
 (kld (.pointer (some ⟨4, 0, none⟩)) w2 fun v3 =>
 kcall Tryz.prog 63 #[v3] w2 fun v4 w5 =>
 Q (.tuple #[.int .i64 0, v4]) w5)
 (f143_0 x0 x1 Q w2)
theorem f143_ok {x0 x1 : Value} {Q : PQ} {w : World} (h : f143 x0 x1 Q w) : Meets Tryz.prog 143 #[x0, x1] w Q :=
 sound' (c := Tryz.f143.body.get rfl) [] Tryz.func143 rfl rfl (args := [x0, x1]) rfl (by kernel_rfl) h
def f36_0 (x0 : Value) (Q : PQ) (w : World) : Prop :=
 kN x0 <|
 kfld 6 x0 fun v12 =>
 kld v12 w fun v13 =>
 kbld [.int .i64 0, .int .i64 0, .int .i64 0, .int .i64 0, .int .i64 0, .int .i64 0, .int .i64 0, .int .i64 0, .slice none 0 0, .int .i64 0, .int .i64 0] [(0, 1, (.int .i64 9)), (10, 1, v13)] fun v14 =>
 kcall Tryz.prog 71 #[x0, v14] w fun v15 w16 =>
 kN x0 <|
 kfld 6 x0 fun v17 =>
 kld v17 w16 fun v18 =>
 kint .i64 .add v18 (.int .i64 1) fun v19 =>
 kN x0 <|
 kfld 6 x0 fun v20 =>
 kst 1 v20 v19 w16 fun w21 =>
 Q .nilIface w21
def f36 (x0 : Value) (Q : PQ) (w : World) : Prop :=
 keq Tryz.prog .eql 50 false true x0 (.pointer none) w fun v1 w2 =>
 kB v1 fun b23 => kIf b23
 (kld (.pointer (some ⟨4, 0, none⟩)) w2 fun v3 =>
 kcall Tryz.prog 63 #[v3] w2 fun v4 w5 =>
 Q v4 w5)
 (kN x0 <|
 kfld 6 x0 fun v6 =>
 kld v6 w2 fun v7 =>
 kint .i64 .geq v7 (.int .i64 1073741824) fun v8 =>
 kB v8 fun b22 => kIf b22
 (kld (.pointer (some ⟨7, 0, none⟩)) w2 fun v9 =>
 kcall Tryz.prog 63 #[v9] w2 fun v10 w11 =>
 Q v10 w11)
 (f36_0 x0 Q w2))
theorem f36_ok {x0 : Value} {Q : PQ} {w : World} (h : f36 x0 Q w) : Meets Tryz.prog 36 #[x0] w Q :=
 sound' (c := Tryz.f36.body.get rfl) [] Tryz.func36 rfl rfl (args := [x0]) rfl (by kernel_rfl) h
def f141_0 (x0 x1 : Value) (Q : PQ) (w : World) : Prop :=
 kN x0 <|
 kfld 4 x0 fun v3 =>
 kld v3 w fun v4 =>
 kcall Tryz.prog 193 #[v4, x1] w fun v5 w6 =>
 kext v5 0 fun v7 =>
 kext v5 1 fun v8 =>
 Q (.tuple #[v7, v8]) w6
def f141 (x0 x1 : Value) (Q : PQ) (w : World) : Prop :=
 keq Tryz.prog .eql 50 false true x0 (.pointer none) w fun v1 w2 =>
 kB v1 fun b9 => kIf b9
 (Q (.tuple #[.int .i64 0, .bool false]) w2)
 (f141_0 x0 x1 Q w2)
theorem f141_ok {x0 x1 : Value} {Q : PQ} {w : World} (h : f141 x0 x1 Q w) : Meets Tryz.prog 141 #[x0, x1] w Q :=
 sound' (c := Tryz.f141.body.get rfl) [] Tryz.func141 rfl rfl (args := [x0, x1]) rfl (by kernel_rfl) h
def f194_0 (x1 x6 x7 : Value) (Q : PQ) (w : World) : Prop :=
 kcnv .u64 x1 fun v6 =>
 kint .u64 .rem x7 v6 fun v7 =>
 kcnv .i64 v7 fun v8 =>
 Q (.tuple #[x6, v8]) w.drew
def f194 (x0 x1 : Value) (Q : PQ) (w : World) : Prop :=
 kcall Tryz.prog 227 #[x0] w fun v1 w2 =>
 kext v1 0 fun v3 =>
 kext v1 1 fun v4 =>
 kint .i64 .leq x1 (.int .i64 0) fun v5 =>
 kB v5 fun b9 => kIf b9
 (Q (.tuple #[v3, .int .i64 0]) w2)
 (f194_0 x1 v3 v4 Q w2)
theorem f194_ok {x0 x1 : Value} {Q : PQ} {w : World} (h : f194 x0 x1 Q w) : Meets Tryz.prog 194 #[x0, x1] w Q :=
 sound' (c := Tryz.f194.body.get rfl) [] Tryz.func194 rfl rfl (args := [x0, x1]) rfl (by kernel_rfl) h
def f227 (x0 : Value) (Q : PQ) (w : World) : Prop :=
 kcall Tryz.prog 244 #[x0, .int .i64 1] w fun v1 w2 =>
 kcnv .u64 v1 fun v3 =>
 kcall Tryz.prog 245 #[v3] w2 fun v4 w5 =>
 Q (.tuple #[v1, v4]) w5
theorem f227_ok {x0 : Value} {Q : PQ} {w : World} (h : f227 x0 Q w) : Meets Tryz.prog 227 #[x0] w Q :=
 sound' (c := Tryz.f227.body.get rfl) [] Tryz.func227 rfl rfl (args := [x0]) rfl (by kernel_rfl) h
def f244 (x0 x1 : Value) (Q : PQ) (w : World) : Prop :=
 kcnv .u64 x0 fun v1 =>
 kcnv .u64 x1 fun v2 =>
 kint .u64 .mul v2 (.int .u64 11400714819323198485) fun v3 =>
 kint .u64 .add v1 v3 fun v4 =>
 kcnv .i64 v4 fun v5 =>
 Q v5 w
theorem f244_ok {x0 x1 : Value} {Q : PQ} {w : World} (h : f244 x0 x1 Q w) : Meets Tryz.prog 244 #[x0, x1] w Q :=
 sound' (c := Tryz.f244.body.get rfl) [] Tryz.func244 rfl rfl (args := [x0, x1]) rfl (by kernel_rfl) h
def f245 (x0 : Value) (Q : PQ) (w : World) : Prop :=
 kint .u64 .shr x0 (.int .u64 30) fun v1 =>
 kint .u64 .xor x0 v1 fun v2 =>
 kint .u64 .mul v2 (.int .u64 13787848793156543929) fun v3 =>
 kint .u64 .shr v3 (.int .u64 27) fun v4 =>
 kint .u64 .xor v3 v4 fun v5 =>
 kint .u64 .mul v5 (.int .u64 10723151780598845931) fun v6 =>
 kint .u64 .shr v6 (.int .u64 31) fun v7 =>
 kint .u64 .xor v6 v7 fun v8 =>
 Q v8 w
theorem f245_ok {x0 : Value} {Q : PQ} {w : World} (h : f245 x0 Q w) : Meets Tryz.prog 245 #[x0] w Q :=
 sound' (c := Tryz.f245.body.get rfl) [] Tryz.func245 rfl rfl (args := [x0]) rfl (by kernel_rfl) h
def f68 (x0 : Value) (Q : PQ) (w : World) : Prop :=
 knew (Value.cells x0) 25 w fun v1 w2 =>
 kldN 2 v1 w2 fun v3 =>
 kcall Tryz.prog 120 #[v3, .bool true] w2 fun v4 w5 =>
 Q v4 w5
theorem f68_ok {x0 : Value} {Q : PQ} {w : World} (h : f68 x0 Q w) : Meets Tryz.prog 68 #[x0] w Q :=
 sound' (c := Tryz.f68.body.get rfl) [] Tryz.func68 rfl rfl (args := [x0]) rfl (by kernel_rfl) h
def f120_2 (x1 x4 x8 x9 x10 : Value) (J2 : Value → Value → World → Prop) (Q : PQ) (w : World) : Prop :=
 kint .i64 .add x10 (.int .i64 1) fun v18 =>
 J2 x4 v18 w
def f120_1 (x1 x4 x8 x9 x10 : Value) (J2 : Value → Value → World → Prop) (Q : PQ) (w : World) : Prop :=
 kix (some (.slice 80)) (some 7) x8 x10 fun v8 =>
 kldN 7 v8 w fun v9 =>
 knew #[(.string ⟨#[]⟩), .int .i64 0, .bool false, .int .i64 0, .int .i64 0, .int .i64 0, .int .i64 0] 80 w fun v10 w11 =>
 kst 7 v10 v9 w11 fun w12 =>
 kfld 2 v10 fun v13 =>
 kld v13 w12 fun v14 =>
 kbool .eql v14 x1 fun v15 =>
 kB v15 fun b19 => kIf b19
 (kcall Tryz.prog 113 #[x4, x10] w12 fun v16 w17 =>
 f120_2 x1 v16 x8 x9 x10 J2 Q w17)
 (f120_2 x1 x4 x8 x9 x10 J2 Q w12)
def f120_3 (x4 : Value) (Q : PQ) (w : World) : Prop :=
 Q x4 w
def f120_0 (x4 x10 x1 x8 x9 : Value) (J2 : Value → Value → World → Prop) (Q : PQ) (w : World) : Prop :=
 kint .i64 .lss x10 x9 fun v7 =>
 kB v7 fun b20 => kIf b20
 (f120_1 x1 x4 x8 x9 x10 J2 Q w)
 (f120_3 x4 Q w)
def f120 (x0 x1 : Value) (Q : PQ) (w : World) : Prop :=
 knew (Value.cells x0) 25 w fun v1 w2 =>
 kfld 0 v1 fun v3 =>
 kld v3 w2 fun v4 =>
 klen v4 fun v5 =>
 kL fun (I : Value → Value → World → Prop) (μ : Value → Value → World → Nat) => I (.int .u32 0) (.int .i64 0) w2 ∧ ∀ (x4 x10 : Value) (w1 : World), I x4 x10 w1 →
 f120_0 x4 x10 x1 v4 v5 (fun y4 y10 w2 => I y4 y10 w2 ∧ μ y4 y10 w2 < μ x4 x10 w1) Q w1
theorem f120_ok {x0 x1 : Value} {Q : PQ} {w : World} (h : f120 x0 x1 Q w) : Meets Tryz.prog 120 #[x0, x1] w Q :=
 sound' (c := Tryz.f120.body.get rfl) [(2, [4, 10])] Tryz.func120 rfl rfl (args := [x0, x1]) rfl (by kernel_rfl) h
end
section
def f33_2 (x1 x2 : Value) (Q : PQ) (w : World) : Prop :=
 kfld 0 x2 fun v16 =>
 kld v16 w fun v17 =>
 kcall Tryz.prog 65 #[v17] w fun v18 w19 =>
 kbld [.slice none 0 0, .slice none 0 0] [(0, 1, v18)] fun v20 =>
 knew #[.slice none 0 0, .slice none 0 0] 25 w19 fun v21 w22 =>
 kst 2 v21 v20 w22 fun w23 =>
 kldN 2 v21 w23 fun v24 =>
 kbld [.slice none 0 0, .slice none 0 0, .int .i64 0, .slice none 0 0, .int .i64 0, .int .i64 0] [(0, 2, v24), (2, 1, x1)] fun v25 =>
 knew (Value.cells v25) 163 w23 fun v26 w27 =>
 Q (.tuple #[v26, .nilIface]) w27
def f33_1 (x1 x2 x19 : Value) (Q : PQ) (w : World) : Prop :=
 kB x19 fun b28 => kIf b28
 (kld (.pointer (some ⟨2, 0, none⟩)) w fun v13 =>
 kcall Tryz.prog 69 #[v13] w fun v14 w15 =>
 Q (.tuple #[.pointer none, v14]) w15)
 (f33_2 x1 x2 Q w)
def f33_0 (x1 x2 : Value) (Q : PQ) (w : World) : Prop :=
 kint .i64 .lss x1 (.int .i64 0) fun v10 =>
 kB v10 fun b11 => kIf (!b11)
 (kint .i64 .gtr x1 (.int .i64 64) fun v12 =>
 f33_1 x1 x2 v12 Q w)
 (f33_1 x1 x2 (.bool true) Q w)
def f33 (x0 x1 : Value) (Q : PQ) (w : World) : Prop :=
 knew (Value.cells x0) 25 w fun v1 w2 =>
 kldN 2 v1 w2 fun v3 =>
 kcall Tryz.prog 22 #[v3] w2 fun v4 w5 =>
 keq Tryz.prog .neq 33 false true v4 .nilIface w5 fun v6 w7 =>
 kB v6 fun b29 => kIf b29
 (kcall Tryz.prog 69 #[v4] w7 fun v8 w9 =>
 Q (.tuple #[.pointer none, v8]) w9)
 (f33_0 x1 v1 Q w7)
theorem f33_ok {x0 x1 : Value} {Q : PQ} {w : World} (h : f33 x0 x1 Q w) : Meets Tryz.prog 33 #[x0, x1] w Q :=
 sound' (c := Tryz.f33.body.get rfl) [] Tryz.func33 rfl rfl (args := [x0, x1]) rfl (by kernel_rfl) h
def f69 (x0 : Value) (Q : PQ) (w : World) : Prop :=
 kcall Tryz.prog 25 #[(.string ⟨#[111, 114, 100, 101, 114, 115]⟩), x0] w fun v1 w2 =>
 Q v1 w2
theorem f69_ok {x0 : Value} {Q : PQ} {w : World} (h : f69 x0 Q w) : Meets Tryz.prog 69 #[x0] w Q :=
 sound' (c := Tryz.f69.body.get rfl) [] Tryz.func69 rfl rfl (args := [x0]) rfl (by kernel_rfl) h
def f199_1 (Q : PQ) (w : World) : Prop :=
 Q (.bool false) w
def f199_0 (x3 x5 x23 : Value) (Q : PQ) (w : World) : Prop :=
 kB x23 fun b24 => kIf b24
 (kfld 3 x3 fun v17 =>
 kld v17 w fun v18 =>
 kint .i64 .geq v18 (.int .i64 0) fun v19 =>
 kB v19 fun b20 => kIf b20
 (kfld 3 x3 fun v21 =>
 kld v21 w fun v22 =>
 kint .i64 .lss v22 x5 fun v23 =>
 Q v23 w)
 (Q (.bool false) w))
 (f199_1 Q w)
def f199 (x0 x1 : Value) (Q : PQ) (w : World) : Prop :=
 knew (Value.cells x1) 278 w fun v1 w2 =>
 kN x0 <|
 kfld 0 x0 fun v3 =>
 kfld 0 v3 fun v4 =>
 kld v4 w2 fun v5 =>
 klen v5 fun v6 =>
 kfld 0 v1 fun v8 =>
 kld v8 w2 fun v9 =>
 kint .i64 .eql v9 (.int .i64 1) fun v10 =>
 kB v10 fun b28 => kIf b28
 (kfld 2 v1 fun v11 =>
 kld v11 w2 fun v12 =>
 kint .u32 .shr v12 v6 fun v13 =>
 kint .u32 .eql v13 (.int .u32 0) fun v14 =>
 Q v14 w2)
 (kint .i64 .eql v9 (.int .i64 2) fun v15 =>
 kB v15 fun b27 => kIf b27
 (Q (.bool true) w2)
 (kint .i64 .eql v9 (.int .i64 3) fun v16 =>
 kB v16 fun b26 => kIf b26
 (f199_0 v1 v6 v16 Q w2)
 (kint .i64 .eql v9 (.int .i64 4) fun v25 =>
 f199_0 v1 v6 v25 Q w2)))
theorem f199_ok {x0 x1 : Value} {Q : PQ} {w : World} (h : f199 x0 x1 Q w) : Meets Tryz.prog 199 #[x0, x1] w Q :=
 sound' (c := Tryz.f199.body.get rfl) [] Tryz.func199 rfl rfl (args := [x0, x1]) rfl (by kernel_rfl) h
def f146_0 (x0 x3 : Value) (Q : PQ) (w : World) : Prop :=
 kN x0 <|
 kfld 4 x0 fun v28 =>
 kld v28 w fun v29 =>
 kint .i64 .add v29 (.int .i64 1) fun v30 =>
 kN x0 <|
 kfld 4 x0 fun v31 =>
 kst 1 v31 v30 w fun w32 =>
 kN x0 <|
 kfld 3 x0 fun v33 =>
 kld v33 w32.drew fun v34 =>
 kG (w32.drew = w32.drew) <|
 kldN 4 x3 w32.drew fun v35 =>
 kG (w32.drew = w32.drew) <|
 kbldS [.int .i64 0, .int .i64 0, .int .u32 0, .int .i64 0] 1 [(0, 4, v35)] 278 w32.drew fun v36 w37 =>
 kG (kld v33 w37 fun v42 =>
 v42 = v34 ∧ w37 = w37) <|
 ksem Tryz.prog (Builtin.append_ #[161, 161] 0 #[v34, v36]) w37 fun v38 w39 =>
 kN x0 <|
 kfld 3 x0 fun v40 =>
 kst 1 v40 v38 w39 fun w41 =>
 Q .nilIface w41
def f146 (x0 x1 : Value) (Q : PQ) (w : World) : Prop :=
 knew (Value.cells x1) 278 w fun v1 w2 =>
 keq Tryz.prog .eql 51 false true x0 (.pointer none) w2 fun v3 w4 =>
 kB v3 fun b45 => kIf b45
 (kld (.pointer (some ⟨4, 0, none⟩)) w4 fun v5 =>
 kcall Tryz.prog 69 #[v5] w4 fun v6 w7 =>
 Q v6 w7)
 (kldN 4 v1 w4 fun v8 =>
 kcall Tryz.prog 199 #[x0, v8] w4 fun v9 w10 =>
 kun .not (some .bool) v9 fun v11 =>
 kB v11 fun b44 => kIf b44
 (kld (.pointer (some ⟨2, 0, none⟩)) w10 fun v12 =>
 kcall Tryz.prog 69 #[v12] w10 fun v13 w14 =>
 Q v13 w14)
 (kN x0 <|
 kfld 4 x0 fun v15 =>
 kld v15 w10.drew fun v16 =>
 kG (w10.drew = w10.drew) <|
 kN x0 <|
 kfld 2 x0 fun v17 =>
 kld v17 w10.drew fun v18 =>
 kG (w10.drew = w10.drew) <|
 kint .i64 .geq v16 v18 fun v19 =>
 kB v19 fun b43 => kIf b43
 (kN x0 <|
 kfld 5 x0 fun v20 =>
 kld v20 w10.drew fun v21 =>
 kint .i64 .add v21 (.int .i64 1) fun v22 =>
 kN x0 <|
 kfld 5 x0 fun v23 =>
 kst 1 v23 v22 w10.drew fun w24 =>
 kld (.pointer (some ⟨7, 0, none⟩)) w24 fun v25 =>
 kcall Tryz.prog 69 #[v25] w24 fun v26 w27 =>
 Q v26 w27)
 (f146_0 x0 v1 Q w10.drew)))
theorem f146_ok {x0 x1 : Value} {Q : PQ} {w : World} (h : f146 x0 x1 Q w) : Meets Tryz.prog 146 #[x0, x1] w Q :=
 sound' (c := Tryz.f146.body.get rfl) [] Tryz.func146 rfl rfl (args := [x0, x1]) rfl (by kernel_rfl) h
end
section
def rollF (l : List Bool) : Nat := l.zipIdx.foldl (fun m p => if p.1 then m ||| bitF p.2 else m) 0
theorem rollF_snoc (l : List Bool) (x : Bool) : rollF (l ++ [x]) = if x then rollF l ||| bitF l.length else rollF l := by
 simp [rollF, List.zipIdx_append]
theorem fold_lt {α : Type} (f : Nat → α → Nat) (hf : ∀ m x, m < 4294967296 → f m x < 4294967296) : ∀ (l : List α) (m : Nat), m < 4294967296 → l.foldl f m < 4294967296
 | [], m, h => h
 | x :: l, m, h => fold_lt f hf l _ (hf m x h)
theorem or_lt {a b : Nat} (ha : a < 4294967296) (hb : b < 4294967296) : a ||| b < 4294967296 := Nat.or_lt_two_pow (n := 32) (by omega) (by omega)
theorem rollF_lt (l : List Bool) : rollF l < 4294967296 := by
 refine fold_lt _ (fun m x h => ?_) _ 0 (by omega)
 split
 ·exact or_lt h (bitF_lt _)
 ·exact h
def KindsInv (w : World) (l : List Comp) (x y : Value) (wr : World) : Prop := ∃ i : Nat, i ≤ l.length ∧ y = .int .i64 i ∧ x = msk (rollF ((l.map (·.rb)).take i)) ∧ Same w wr
theorem kinds_spec (l : List Comp) (hn : l.length ≤ 4611686018427387903) (a : Option Addr) (c : Nat) (r : Value) (w : World) (hs : SlIs w a l.length 7 (l.flatMap Comp.cells)) (hr : r.cells = #[r]) :
  Meets Tryz.prog 120 #[.agg #[.slice a l.length c, r], .bool true] w fun v w' => v = msk (rollF (l.map (·.rb))) ∧ Same w w' := by
 refine f120_ok ?_
 unfold f120
 simp -dsimp [Value.cells]
 refine kL_of (KindsInv w l) (fun _ y _ => l.length - (RowKit.intOf y).toNat) ⟨⟨0, by omega, rfl, by simp [rollF, msk], (Mod.refl _ _).alloc _⟩, ?_⟩
 rintro x y wr ⟨i, hi, rfl, rfl, hm⟩
 unfold f120_0
 simp -dsimp
 refine kIf_dec (fun hlt => ?_) (fun hge => ?_)
 ·have hlt : i < l.length := by omega
  obtain ⟨b, o, c', t', f', rfl, hb, hle, hcs⟩ := (hs.same hm).at hlt (by omega)
  rw [flat_get Comp.cells 7 (fun _ => rfl) l i hlt] at hcs
  have htk : (l.map (·.rb)).take (i + 1) = (l.map (·.rb)).take i ++ [l[i].rb] := by rw [List.take_succ_eq_append_getElem (by simpa using hlt)]; simp
  have hlen : ((l.map (·.rb)).take i).length = i := by simp; omega
  generalize l[i] = p at *
  have hadd := i64_succ (i := i) (by omega)
  unfold f120_1
  simp -dsimp [hlt, hb, hle, hcs, Comp.cells]
  have hal : ∀ o, Same w (wr.alloc o) := fun o => hm.alloc o
  cases hrb : p.rb with
  | true =>
   simp -dsimp
   refine kcall_of (with_spec _ _ (rollF_lt _) (by omega) (by omega) _) ?_
   rintro v w' ⟨rfl, rfl⟩
   unfold f120_2
   simp -dsimp [hadd]
   refine ⟨⟨i + 1, by omega, rfl, ?_, hal _⟩, by simp [RowKit.intOf]; omega⟩
   rw [htk, rollF_snoc, hrb, if_pos rfl, hlen]
  | false =>
   simp -dsimp
   unfold f120_2
   simp -dsimp [hadd]
   refine ⟨⟨i + 1, by omega, rfl, ?_, hal _⟩, by simp [RowKit.intOf]; omega⟩
   rw [htk, rollF_snoc, hrb, if_neg (by decide)]
 ·have : i = l.length := by omega
  subst this
  unfold f120_3
  exact ⟨by rw [List.take_of_length_le (by simp)], hm⟩
theorem Rollback_spec (l : List Comp) (hn : l.length ≤ 4611686018427387903) (a : Option Addr) (c : Nat) (r : Value) (w : World) (hs : SlIs w a l.length 7 (l.flatMap Comp.cells)) (hr : r.cells = #[r]) :
  Meets Tryz.prog 68 #[.agg #[.slice a l.length c, r]] w fun v w' => v = msk (rollF (l.map (·.rb))) ∧ Same w w' := by
 refine f68_ok ?_
 unfold f68
 simp -dsimp [Value.cells]
 refine kcall_of (kinds_spec l hn a c r _ (hs.same (same_alloc _ _)) hr) ?_
 rintro v w' ⟨rfl, hm⟩
 exact ⟨rfl, (same_alloc _ _).trans hm⟩
end
section
attribute [local irreducible] kO kB kStr kInt kN kG kIf kfld kld kldN kst knew kmap kbld kbldS kext kcnv klenStr klen kcap kprt kprtN kbool kint kstr keq kun ksl kix kiv kta kmk kmm ksem ksemU kextf kcallV kcallM kcall kL
end
section
structure OrdM where
 kind : Int
 id : Int
 mask : Nat
 comp : Int
def OrdM.cells (x : OrdM) : List Value := [.int .i64 x.kind, .int .i64 x.id, msk x.mask, .int .i64 x.comp]
def OrdM.fit (n : Nat) (x : OrdM) : Prop := (x.kind = 1 ∧ x.mask < 2 ^ n) ∨ x.kind = 2 ∨ ((x.kind = 3 ∨ x.kind = 4) ∧ 0 ≤ x.comp ∧ x.comp < n)
theorem viewS_len (S : SM) (B : BdM) : (viewS S B).length = B.l.length := by unfold viewS; simp
theorem Link.full {S : SM} {B : BdM} (h : Link S B) : S.free = [] ↔ ¬ (viewS S B).length < S.gens.length := by
 have := h.cnt
 rw [viewS_len]
 constructor
 ·intro e
  rw [e] at this
  simp at this
  omega
 ·intro hn
  exact List.eq_nil_of_length_eq_zero (by omega)
theorem Link.le {S : SM} {B : BdM} (h : Link S B) (hg : S.gens.length ≤ 64) : B.l.length ≤ 64 := by
 have := h.cnt
 omega
theorem findV_mem {V : List (Nat × List Part)} {x : Int} {y : Nat × List Part} (h : findV V x = some y) : y ∈ V ∧ ((y.1 : Nat) : Int) = x := by
 unfold findV at h
 refine ⟨List.mem_of_find?_eq_some h, ?_⟩
 have := List.find?_some h
 simpa using this
end
section
def f64_3 (x5 x18 x19 x20 : Value) (J6 : Value → World → Prop) (Q : PQ) (w : World) : Prop :=
 kint .i64 .add x20 (.int .i64 1) fun v41 =>
 J6 v41 w
def f64_2 (x5 x18 x19 x20 : Value) (J6 : Value → World → Prop) (Q : PQ) (w : World) : Prop :=
 kix (some (.slice 82)) (some 2) x18 x20 fun v20 =>
 kldN 2 v20 w fun v21 =>
 knew #[(.string ⟨#[]⟩), .int .i64 0] 82 w fun v22 w23 =>
 kst 2 v22 v21 w23 fun w24 =>
 kN x5 <|
 kfld 0 x5 fun v25 =>
 kld v25 w24.drew fun v26 =>
 kG (w24.drew = w24.drew) <|
 kfld 0 v22 fun v27 =>
 kld v27 w24.drew fun v28 =>
 kG (w24.drew = w24.drew) <|
 ksemU Tryz.prog (Instr.mapUpdate 244 v26 v28 x20) w24.drew fun _ w30 =>
 kN x5 <|
 kfld 1 x5 fun v31 =>
 kld v31 w30.drew fun v32 =>
 kG (w30.drew = w30.drew) <|
 kfld 1 v22 fun v33 =>
 kld v33 w30.drew fun v34 =>
 kG (w30.drew = w30.drew) <|
 kbldS [.int .i64 0] 1 [(0, 1, v34)] 3 w30.drew fun v35 w36 =>
 kG (kld v31 w36 fun v42 =>
 v42 = v32 ∧ w36 = w36) <|
 ksem Tryz.prog (Builtin.append_ #[57, 57] 0 #[v32, v35]) w36 fun v37 w38 =>
 kN x5 <|
 kfld 1 x5 fun v39 =>
 kst 1 v39 v37 w38 fun w40 =>
 f64_3 x5 x18 x19 x20 J6 Q w40
def f64_4 (x5 : Value) (Q : PQ) (w : World) : Prop :=
 Q (.tuple #[x5, .nilIface]) w
def f64_1 (x20 x5 x18 x19 : Value) (J6 : Value → World → Prop) (Q : PQ) (w : World) : Prop :=
 kint .i64 .lss x20 x19 fun v19 =>
 kB v19 fun b43 => kIf b43
 (f64_2 x5 x18 x19 x20 J6 Q w)
 (f64_4 x5 Q w)
def f64_0 (x1 : Value) (Q : PQ) (w : World) : Prop :=
 kmap w fun v10 w11 =>
 kbld [.map none, .slice none 0 0, .int .i64 0] [(0, 1, v10)] fun v12 =>
 knew (Value.cells v12) 246 w11 fun v13 w14 =>
 kfld 1 x1 fun v15 =>
 kld v15 w14 fun v16 =>
 klen v16 fun v17 =>
 kL fun (I : Value → World → Prop) (μ : Value → World → Nat) => I (.int .i64 0) w14 ∧ ∀ (x20 : Value) (w1 : World), I x20 w1 →
 f64_1 x20 v13 v16 v17 (fun y20 w2 => I y20 w2 ∧ μ y20 w2 < μ x20 w1) Q w1
def f64 (x0 : Value) (Q : PQ) (w : World) : Prop :=
 knew (Value.cells x0) 25 w fun v1 w2 =>
 kldN 2 v1 w2 fun v3 =>
 kcall Tryz.prog 22 #[v3] w2 fun v4 w5 =>
 keq Tryz.prog .neq 33 false true v4 .nilIface w5 fun v6 w7 =>
 kB v6 fun b44 => kIf b44
 (kcall Tryz.prog 119 #[v4] w7 fun v8 w9 =>
 Q (.tuple #[.pointer none, v8]) w9)
 (f64_0 v1 Q w7)
theorem f64_ok {x0 : Value} {Q : PQ} {w : World} (h : f64 x0 Q w) : Meets Tryz.prog 64 #[x0] w Q :=
 sound' (c := Tryz.f64.body.get rfl) [(6, [20])] Tryz.func64 rfl rfl (args := [x0]) rfl (by kernel_rfl) h
def f119 (x0 : Value) (Q : PQ) (w : World) : Prop :=
 kcall Tryz.prog 25 #[(.string ⟨#[103, 111, 111, 100, 115]⟩), x0] w fun v1 w2 =>
 Q v1 w2
theorem f119_ok {x0 : Value} {Q : PQ} {w : World} (h : f119 x0 Q w) : Meets Tryz.prog 119 #[x0] w Q :=
 sound' (c := Tryz.f119.body.get rfl) [] Tryz.func119 rfl rfl (args := [x0]) rfl (by kernel_rfl) h
def f226_0 (x0 : Value) (Q : PQ) (w : World) : Prop :=
 kN x0 <|
 kfld 1 x0 fun v3 =>
 kld v3 w fun v4 =>
 klen v4 fun v5 =>
 Q v5 w
def f226 (x0 : Value) (Q : PQ) (w : World) : Prop :=
 keq Tryz.prog .eql 150 false true x0 (.pointer none) w fun v1 w2 =>
 kB v1 fun b7 => kIf b7
 (Q (.int .i64 0) w2)
 (f226_0 x0 Q w2)
theorem f226_ok {x0 : Value} {Q : PQ} {w : World} (h : f226 x0 Q w) : Meets Tryz.prog 226 #[x0] w Q :=
 sound' (c := Tryz.f226.body.get rfl) [] Tryz.func226 rfl rfl (args := [x0]) rfl (by kernel_rfl) h
def f193_1 (x0 x1 : Value) (Q : PQ) (w : World) : Prop :=
 kN x0 <|
 kfld 1 x0 fun v6 =>
 kld v6 w fun v7 =>
 kix (some (.slice 3)) (some 1) v7 x1 fun v8 =>
 kld v8 w fun v9 =>
 Q (.tuple #[v9, .bool true]) w
def f193_0 (x0 x1 x13 : Value) (Q : PQ) (w : World) : Prop :=
 kB x13 fun b10 => kIf b10
 (Q (.tuple #[.int .i64 0, .bool false]) w)
 (f193_1 x0 x1 Q w)
def f193 (x0 x1 : Value) (Q : PQ) (w : World) : Prop :=
 kint .i64 .lss x1 (.int .i64 0) fun v1 =>
 kB v1 fun b2 => kIf (!b2)
 (kcall Tryz.prog 226 #[x0] w fun v3 w4 =>
 kint .i64 .geq x1 v3 fun v5 =>
 f193_0 x0 x1 v5 Q w4)
 (f193_0 x0 x1 (.bool true) Q w)
theorem f193_ok {x0 x1 : Value} {Q : PQ} {w : World} (h : f193 x0 x1 Q w) : Meets Tryz.prog 193 #[x0, x1] w Q :=
 sound' (c := Tryz.f193.body.get rfl) [] Tryz.func193 rfl rfl (args := [x0, x1]) rfl (by kernel_rfl) h
def f198_0 (x0 x1 x2 x8 : Value) (Q : PQ) (w : World) : Prop :=
 kN x0 <|
 kfld 1 x0 fun v14 =>
 kld v14 w fun v15 =>
 kix (some (.slice 3)) (some 1) v15 x1 fun v16 =>
 kst 1 v16 x2 w fun w17 =>
 kN x0 <|
 kfld 2 x0 fun v18 =>
 kld v18 w17 fun v19 =>
 kint .i64 .add v19 (.int .i64 1) fun v20 =>
 kN x0 <|
 kfld 2 x0 fun v21 =>
 kst 1 v21 v20 w17 fun w22 =>
 Q (.tuple #[x8, .nilIface]) w22
def f198 (x0 x1 x2 : Value) (Q : PQ) (w : World) : Prop :=
 kcall Tryz.prog 193 #[x0, x1] w fun v1 w2 =>
 kext v1 0 fun v3 =>
 kext v1 1 fun v4 =>
 keq Tryz.prog .eql 150 false true x0 (.pointer none) w2 fun v5 w6 =>
 kB v5 fun b24 => kIf b24
 (kld (.pointer (some ⟨4, 0, none⟩)) w6 fun v7 =>
 kcall Tryz.prog 119 #[v7] w6 fun v8 w9 =>
 Q (.tuple #[.int .i64 0, v8]) w9)
 (kun .not (some .bool) v4 fun v10 =>
 kB v10 fun b23 => kIf b23
 (kld (.pointer (some ⟨12, 0, none⟩)) w6 fun v11 =>
 kcall Tryz.prog 119 #[v11] w6 fun v12 w13 =>
 Q (.tuple #[.int .i64 0, v12]) w13)
 (f198_0 x0 x1 x2 v3 Q w6))
theorem f198_ok {x0 x1 x2 : Value} {Q : PQ} {w : World} (h : f198 x0 x1 x2 Q w) : Meets Tryz.prog 198 #[x0, x1, x2] w Q :=
 sound' (c := Tryz.f198.body.get rfl) [] Tryz.func198 rfl rfl (args := [x0, x1, x2]) rfl (by kernel_rfl) h
end
section
attribute [local irreducible] kO kB kStr kInt kN kG kIf kfld kld kldN kst knew kmap kbld kbldS kext kcnv klenStr klen kcap kprt kprtN kbool kint kstr keq kun ksl kix kiv kta kmk kmm ksem ksemU kextf kcallV kcallM kcall kL
structure WC where
 bw : Nat
 bs : Nat
 bb : Nat
 ca : Option Addr
 cc : Nat
 rv : Value
 bg : Nat
 gm : Value
 gs : Value
 gn : Value
 R : List Int
 L : List Comp
 rolled : Nat
 frame : Int
 seed : Int
def WC.cells (c : WC) : Array Value := #[.slice c.ca c.L.length c.cc, c.rv, .pointer (some ⟨c.bs, 0, none⟩), .pointer (some ⟨c.bb, 0, none⟩), .pointer (some ⟨c.bg, 0, none⟩), msk c.rolled, .int .i64 c.frame, .int .i64 c.seed, .pointer none]
def WC.mine (c : WC) (k : Nat) : Prop := k = c.bw ∨ (∃ f, c.ca = some ⟨k, f, none⟩) ∨ k = c.bg ∨ vblk c.gs k
structure WdAt (c : WC) (w0 : World) (fx : Nat → Prop) (w : World) (S : SM) (t : Nat) (B : BdM) : Prop where
 here : blk w c.bw = some (.cells c.cells 160)
 fm : ∀ k, c.mine k → fx k
 comps : SlIs w c.ca c.L.length 7 (c.L.flatMap Comp.cells)
 gh : blk w c.bg = some (.cells #[c.gm, c.gs, c.gn] 246)
 go : Own w c.gs 1 (c.R.map (Value.int .i64))
 rvc : c.rv.cells = #[c.rv]
 good : GoodSc c.L
 rl : c.rolled < 4294967296
 A : WAt w0 fx c.bs c.bb w S t B
 link : Link S B
 cs : S.cs = c.L
 gi : ∃ n : Int, c.gn = .int .i64 n
 ap : (∀ k, vblk c.gs k → k ≠ c.bg ∧ k ≠ c.bw ∧ ∀ f, c.ca ≠ some ⟨k, f, none⟩) ∧ c.bg ≠ c.bw ∧ ∀ k f, c.ca = some ⟨k, f, none⟩ → k ≠ c.bg ∧ k ≠ c.bw
theorem WdAt.fw {c : WC} {w0 : World} {fx : Nat → Prop} {w : World} {S : SM} {t : Nat} {B : BdM} (h : WdAt c w0 fx w S t B) : fx c.bw := h.fm _ (.inl rfl)
theorem WdAt.part {c : WC} {w0 : World} {fx fp : Nat → Prop} {w w' : World} {S : SM} {t : Nat} {B : BdM} (h : WdAt c w0 fx w S t B) (m : Mod fp w w') (hf : ∀ k, c.mine k → ¬ fp k) {fx' : Nat → Prop} {S' : SM} {t' : Nat} {B' : BdM} (hs : ∀ k, c.mine k → fx' k) (hA : WAt w0 fx' c.bs c.bb w' S' t' B') (hl : Link S' B') (hcs : S'.cs = S.cs) : WdAt c w0 fx' w' S' t' B' :=
 ⟨m.get h.here (hf _ (.inl rfl)), hs, h.comps.mod m (fun k f e => hf k (.inr (.inl ⟨f, e⟩))), m.get h.gh (hf _ (.inr (.inr (.inl rfl)))), h.go.mod m (fun k hk => hf k (.inr (.inr (.inr hk)))), h.rvc, h.good, h.rl, hA, hl, hcs.trans h.cs, h.gi, h.ap⟩
theorem WdAt.loc {c : WC} {w0 : World} {fx : Nat → Prop} {w w' : World} {S : SM} {t : Nat} {B : BdM} (h : WdAt c w0 fx w S t B) (m : Same w w') : WdAt c w0 fx w' S t B :=
 h.part m (fun _ _ h => h) h.fm (h.A.loc m) h.link rfl
theorem WdAt.step {c : WC} {w0 : World} {fx : Nat → Prop} {w w' : World} {S S' : SM} {t t' : Nat} {B B' : BdM} (h : WdAt c w0 fx w S t B) (hA : WAt w0 fx c.bs c.bb w' S' t' B') (m : Mod (fun k => w0.heap.size ≤ k ∧ ¬ fx k) w w') (hl : Link S' B') (hcs : S'.cs = S.cs) : WdAt c w0 fx w' S' t' B' :=
 h.part m (fun k hk hn => hn.2 (h.fm k hk)) h.fm hA hl hcs
theorem WdAt.other {c : WC} {w0 : World} {fx fp : Nat → Prop} {w w' : World} {S : SM} {t : Nat} {B : BdM} (h : WdAt c w0 fx w S t B) (m : Mod fp w w') (hfp : ∀ k, fp k → fx k ∧ ¬ c.mine k) : WdAt c w0 (fun k => fx k ∨ (w.heap.size ≤ k ∧ k < w'.heap.size)) w' S t B :=
 h.part m (fun k hk hn => (hfp k hn).2 hk) (fun k hk => .inl (h.fm k hk)) (h.A.other m (fun k hk => (hfp k hk).1)) h.link rfl
theorem WdAt.less {c : WC} {w0 : World} {fx fx' : Nat → Prop} {w : World} {S : SM} {t : Nat} {B : BdM} (h : WdAt c w0 fx w S t B) (hs : ∀ k, fx' k → fx k) (h1 : ∀ k, c.mine k → fx' k) : WdAt c w0 fx' w S t B :=
 h.part (Mod.refl (fun _ => False) _) (fun _ _ h => h) h1 (h.A.less hs) h.link rfl
theorem WdAt.gs {c : WC} {w0 : World} {fx : Nat → Prop} {w : World} {S : SM} {t : Nat} {B : BdM} (h : WdAt c w0 fx w S t B) : GS S t := by
 obtain ⟨o, p, U, C, _⟩ := h.A
 exact C.gs
theorem WdAt.wf {c : WC} {w0 : World} {fx : Nat → Prop} {w : World} {S : SM} {t : Nat} {B : BdM} (h : WdAt c w0 fx w S t B) : B.WF := by
 obtain ⟨o, p, U, _, ⟨bo, bi, sv, q⟩, _⟩ := h.A
 exact q.wf
def Out (c : WC) (w0 : World) (fx : Nat → Prop) (w : World) (S : SM) (t : Nat) (B : BdM) (res : Option (List (Nat × List Part) × Nat)) (w' : World) : Prop :=
 ∃ S' B', WdAt c w0 fx w' S' (t + 1) B' ∧ S'.gens.length = S.gens.length ∧ Mod (fun k => w0.heap.size ≤ k ∧ ¬ fx k) w w' ∧ viewS S' B' = (match res with | some x => x.1 | none => viewS S B) ∧ B'.nx = (match res with | some x => x.2 | none => B.nx)
theorem WAt.more {w0 : World} {fx : Nat → Prop} {bs bb : Nat} {w : World} {S : SM} {t t' : Nat} {B : BdM} (h : WAt w0 fx bs bb w S t B) (ht : t ≤ t') : WAt w0 fx bs bb w S t' B := by
 obtain ⟨o, p, U, C, hb, hU, hf⟩ := h
 exact ⟨o, p, U, ⟨C.sp, C.gs.more ht, C.lo, C.hi, C.same⟩, hb, hU, hf⟩
theorem WdAt.more {c : WC} {w0 : World} {fx : Nat → Prop} {w : World} {S : SM} {t t' : Nat} {B : BdM} (h : WdAt c w0 fx w S t B) (ht : t ≤ t') : WdAt c w0 fx w S t' B :=
 h.part (Mod.refl (fun _ => False) _) (fun _ _ h => h) h.fm (h.A.more ht) h.link rfl
theorem Out.none {c : WC} {w0 : World} {fx : Nat → Prop} {w w' : World} {S : SM} {t : Nat} {B : BdM} (h : WdAt c w0 fx w S t B) (m : Same w w') : Out c w0 fx w S t B none w' :=
 ⟨S, B, (h.loc m).more (Nat.le_succ t), rfl, Mod.of_same m, rfl, rfl⟩
theorem ptWor : isPtrT Tryz.prog 50 = true := by kernel_rfl
theorem ptJou : isPtrT Tryz.prog 158 = true := by kernel_rfl
theorem wWrong {Sa : Nat → Addr} {k lo : Nat} {x : Value} {w : World} (h : ErrX Sa k lo x w) (hlo : lo ≤ w.heap.size) : Meets Tryz.prog 63 #[x] w fun v w' => ErrX Sa k lo v w' ∧ Same w w' := by
 refine f63_ok ?_
 unfold f63
 refine kcall_of (atX_spec _ h hlo) ?_
 rintro v w' ⟨h1, h2⟩
 exact ⟨h1, h2⟩
theorem wNote {c : WC} {w : World} (h : blk w c.bw = some (.cells c.cells 160)) (u : Value) : Meets Tryz.prog 71 #[.pointer (some ⟨c.bw, 0, none⟩), u] w fun v w' => v = .tuple #[] ∧ Same w w' := by
 refine f71_ok ?_
 unfold f71
 refine knew_of fun w2 h2 hs2 hb2 => ?_
 have hh := h2.get h (fun h => h)
 refine kN_at ?_
 refine kfld_of ?_
 refine kld_of (v := .pointer none) hh rfl ?_
 rw [keq_ptr_nil' ptJou]
 refine kB_at ?_
 refine kIf_F rfl ?_
 exact ⟨rfl, h2⟩
theorem wNoteOf {c : WC} {w : World} (h : blk w c.bw = some (.cells c.cells 160)) (hr : c.rolled < 4294967296) (kd id : Int) (q : Part) (hq : I64 q.comp) : Meets Tryz.prog 197 #[.pointer (some ⟨c.bw, 0, none⟩), .int .i64 kd, .int .i64 id, .agg q.cells.toArray] w fun v w' => v = .tuple #[] ∧ Same w w' := by
 refine f197_ok ?_
 unfold f197
 refine knew_of fun w2 h2 hs2 hb2 => ?_
 have hb2 : blk w2 w.heap.size = some (.cells q.cells.toArray 102) := hb2
 have md : Same w2 w2.drew := (Mod.refl (fun _ => False) _).drew
 have hh := (h2.trans md).get h (fun h => h)
 have hbd := md.get hb2 (fun h => h)
 refine kN_at ?_
 refine kfld_of ?_
 refine kld_of (v := msk c.rolled) hh rfl ?_
 refine kG_of rfl ?_
 refine kfld_of ?_
 refine kld_of (v := .int .i64 q.comp) hbd (by simp [Part.cells]) ?_
 refine kG_of rfl ?_
 refine kcall_of (has_spec c.rolled q.comp hr hq.1 hq.2 _) ?_
 rintro v w8 ⟨rfl, rfl⟩
 have m2 := h2.trans md
 refine kB_at ?_
 refine kIf_dec (fun _ => ?_) (fun _ => ⟨rfl, m2⟩)
 refine kldN_at (cs := q.cells) hbd rfl (by omega) ?_
 refine kbld_of (cs := .int .i64 kd :: .int .i64 id :: (q.cells ++ [.slice none 0 0, .int .i64 0, .int .i64 0])) rfl ?_
 refine kcall_of (wNote (m2.get h (fun h => h)) _) ?_
 rintro v w12 ⟨rfl, h12⟩
 exact ⟨rfl, m2.trans h12⟩
theorem wEntity_ok {c : WC} {w0 : World} {fx : Nat → Prop} {w : World} {S : SM} {t : Nat} {B : BdM} (h : WdAt c w0 fx w S t B) {x : Int} {y : Nat × EK} (hf : B.l.find? (fun z => decide (((z.1 : Nat) : Int) = x)) = some y) :
  Meets Tryz.prog 195 #[.pointer (some ⟨c.bw, 0, none⟩), .int .i64 x] w fun v w' => v = .tuple #[y.2.v, .nilIface] ∧ Same w w' := by
 refine f195_ok ?_
 unfold f195
 refine knew_of fun w2 h2 hs2 hb2 => ?_
 have hb2 : blk w2 w.heap.size = some (.cells #[.int .i64 0, .int .i64 0] 176) := hb2
 rw [keq_ptr_nil ptWor]
 refine kB_at ?_
 refine kIf_F rfl ?_
 unfold f195_0
 have hh := h2.get h.here (fun h => h)
 refine kN_at ?_
 refine kfld_of ?_
 refine kld_of (v := .pointer (some ⟨c.bb, 0, none⟩)) hh rfl ?_
 obtain ⟨o, p, U, C, hb, hU, hfx⟩ := h.A
 refine kcall_of (bdEntity (hb.same h2) x) ?_
 rintro v w14 ⟨rfl, h14⟩
 rw [hf]
 refine kext_at rfl ?_
 refine kext_at rfl ?_
 have m14 := h2.trans h14
 refine knew_of fun w18 h18 hs18 hb18 => ?_
 refine kst_of (vs := [.int .i64 y.2.i, .int .i64 y.2.g]) hb18 rfl rfl rfl (by simp) (by simp) fun w19 h19 hs19 hb19 => ?_
 have hb19 : blk w19 w14.heap.size = some (.cells #[.int .i64 y.2.i, .int .i64 y.2.g] 176) := hb19
 have m19 : Same w14 w19 := h18.trans' (h19.mono fun k _ e => .inr (by omega))
 have hb219 := m19.get (h14.get hb2 (fun h => h)) (fun h => h)
 have hz14 := m14.size
 refine not_at ?_
 refine kB_at ?_
 refine kIf_F rfl ?_
 unfold f195_1
 refine kldN_at (cs := [.int .i64 y.2.i, .int .i64 y.2.g]) hb19 rfl (by omega) ?_
 refine kst_of (vs := [.int .i64 y.2.i, .int .i64 y.2.g]) hb219 rfl rfl rfl (by simp) (by simp) fun w28 h28 hs28 hb28 => ?_
 have hb28 : blk w28 w.heap.size = some (.cells #[.int .i64 y.2.i, .int .i64 y.2.g] 176) := hb28
 refine kldN_at (cs := [.int .i64 y.2.i, .int .i64 y.2.g]) hb28 rfl (by omega) ?_
 exact ⟨rfl, (m14.trans m19).trans' (h28.mono fun k _ e => .inr (by omega))⟩
theorem wEntity_no {pr : Nat → Prop} {Sa : Nat → Addr} {c : WC} {w0 : World} (hL : LaidP pr Sa w0) (h17 : pr 17) {fx : Nat → Prop} {w : World} {S : SM} {t : Nat} {B : BdM} (h : WdAt c w0 fx w S t B) {x : Int} (hf : B.l.find? (fun z => decide (((z.1 : Nat) : Int) = x)) = none) :
  Meets Tryz.prog 195 #[.pointer (some ⟨c.bw, 0, none⟩), .int .i64 x] w fun v w' => (∃ e, v = .tuple #[entV 0 0, e] ∧ ErrX Sa 17 w.heap.size e w') ∧ Same w w' := by
 refine f195_ok ?_
 unfold f195
 refine knew_of fun w2 h2 hs2 hb2 => ?_
 have hb2 : blk w2 w.heap.size = some (.cells #[.int .i64 0, .int .i64 0] 176) := hb2
 rw [keq_ptr_nil ptWor]
 refine kB_at ?_
 refine kIf_F rfl ?_
 unfold f195_0
 have hh := h2.get h.here (fun h => h)
 refine kN_at ?_
 refine kfld_of ?_
 refine kld_of (v := .pointer (some ⟨c.bb, 0, none⟩)) hh rfl ?_
 have hs0 := h.A.same0
 obtain ⟨o, p, U, C, hb, hU, hfx⟩ := h.A
 refine kcall_of (bdEntity (hb.same h2) x) ?_
 rintro v w14 ⟨rfl, h14⟩
 rw [hf]
 refine kext_at rfl ?_
 refine kext_at rfl ?_
 have m14 := h2.trans h14
 refine knew_of fun w18 h18 hs18 hb18 => ?_
 refine kst_of (vs := [.int .i64 0, .int .i64 0]) hb18 rfl rfl rfl (by simp) (by simp) fun w19 h19 hs19 hb19 => ?_
 have m19 : Same w14 w19 := h18.trans' (h19.mono fun k _ e => .inr (by omega))
 have hb219 := m19.get (h14.get hb2 (fun h => h)) (fun h => h)
 have hz14 := m14.size
 refine not_at ?_
 refine kB_at ?_
 refine kIf_T rfl ?_
 refine kbld_of (cs := [.int .i64 0, .int .i64 0]) rfl ?_
 have mw := m14.trans m19
 refine kld_err (hL.same (hs0.trans mw)) h17 rfl rfl ?_
 have hz2 := h2.size
 refine kcall_of (wWrong (ErrX.sent Sa 17 (w.heap.size + 1) w19) (by have := m19.size; have := h14.size; omega)) ?_
 rintro v w24 ⟨hE, h24⟩
 have hb224 := h24.get hb219 (fun h => h)
 refine kst_of (vs := [.int .i64 0, .int .i64 0]) hb224 rfl rfl rfl (by simp) (by simp) fun w25 h25 hs25 hb25 => ?_
 have hb25 : blk w25 w.heap.size = some (.cells #[.int .i64 0, .int .i64 0] 176) := hb25
 refine kldN_at (cs := [.int .i64 0, .int .i64 0]) hb25 rfl (by omega) ?_
 refine ⟨⟨_, rfl, ?_⟩, (mw.trans h24).trans' (h25.mono fun k _ e => .inr (by omega))⟩
 exact (hE.mod h25 (fun b hlo _ e => by omega)).mono (by omega)
end
end Go.Proofs.YtenokhokboicnaaGreatDoor
