/-
Lemmas for the statements of this seat: no statement of the seat is proved in this part (4 of 6); the conditions stand in each theorem.
-/
import Derived.Test.YtmidldeaapdjoaaGreatDoorWait3
import Derived.Lib.SliceRun
import Derived.Test.YtmidldeaapdjoaaGreatDoorProg
import Derived.Lib.ConvBytes
import Derived.DeepKeys
import Derived.Laws.StructEq
import Derived.WideKeyRuns
import Derived.DeepKeys3
set_option linter.unusedSimpArgs false
set_option linter.unusedVariables false
set_option maxRecDepth 100000
namespace Go.Proofs.YtmidldeaapdjoaaGreatDoor
open Go Go.Ev
section
attribute [local irreducible] kO kB kStr kInt kN kG kIf kfld kld kldN kst knew kmap kbld kbldS kext kcnv klenStr klen kcap kprt kprtN kbool kint kstr keq kun ksl kix kiv kta kmk kmm ksem ksemU kextf kcallV kcallM kcall kL
theorem kcallC_of {P : Program} {f : FuncId} {args : List Value} {caps : Array Value} {w : World} {K Q : Value → World → Prop} (h : Meets P f (args.toArray ++ caps) w Q) (hk : ∀ v w', Q v w' → K v w') : kcallV P (.func (.func f) #[] caps) args w K := by
 have : Meets P f (#[] ++ args.toArray ++ caps) w K := by simpa using h.mono hk
 unfold kcallV
 exact this
theorem zPartA : zeroO Tryz.prog 47 = some (.agg #[.int .i64 0, .int .i64 0, .int .i64 0, .int .i64 0, .int .i64 0, .int .i64 0]) := by kernel_rfl
theorem elPart : Tryz.prog.underlying 40 = some (.slice 47) := by kernel_rfl
theorem ksem_clear1 {w : World} {ty : TypeId} {K : Value → World → Prop} {b o cp : Nat} {arr : Array Value} {tt : TypeId} (hb : blk w b = some (.cells arr tt)) (hle : o + 6 ≤ arr.size)
  (h : ∀ w2, Mod (fun k => k = b) w w2 → w2.heap.size = w.heap.size → blk w2 b = some (.cells (setAll (Part.cells ⟨0, 0, 0, 0, 0, 0⟩) arr o) tt) → K (.tuple #[]) w2) :
  ksem Tryz.prog (Builtin.clear_ #[40] ty #[.slice (some ⟨b, o, none⟩) 1 cp]) w K := by
 have hz : ∀ w, (zeroValue 47).run Tryz.prog w = .ok (.agg #[.int .i64 0, .int .i64 0, .int .i64 0, .int .i64 0, .int .i64 0, .int .i64 0]) w := fun w => run_zero' zPartA
 have hst := run_storeCells_cells (P := Tryz.prog) b o (Part.cells ⟨0, 0, 0, 0, 0, 0⟩) 0 w
  (fun j hj => by
   have : j < 6 := hj
   rw [Nat.add_zero, cell_mk, hb, cellO_some]; simp; omega)
  (fun j hj => by simp [World.frozen?, show w.heap[b]? = _ from hb]) (by intro v hv; simp [Part.cells] at hv; rcases hv with rfl | rfl | rfl | rfl | rfl | rfl <;> rfl)
 have hr : (Builtin.clear_ #[40] ty #[.slice (some ⟨b, o, none⟩) 1 cp]).run Tryz.prog w = .ok (.tuple #[]) (w.setCells b o (Part.cells ⟨0, 0, 0, 0, 0, 0⟩)) := by
  have hzc : (Builtin.zeroCells #[.int .i64 0, .int .i64 0, .int .i64 0, .int .i64 0, .int .i64 0, .int .i64 0] 1).toList = Part.cells ⟨0, 0, 0, 0, 0, 0⟩ := by kernel_rfl
  simp only [Nat.add_zero] at hst
  simp only [Builtin.clear_]
  simp [run_underlying elPart, hz, hzc, hst, Result.andThen]
 rw [ksem_ok hr, setCells_blk _ _ _ _ hb]
 exact h _ ((Mod.refl _ _).setBlk _ (.inl rfl)) (setBlk_size _ _ _) (by rw [setBlk_heap, if_pos rfl, hb]; rfl)
theorem isComp_spec (q : Part) {w : World} {bc : Nat} {c : Int} (hb : blk w bc = some (.cells #[.int .i64 c] 3)) : Meets Tryz.prog 64 #[.agg q.cells.toArray, .pointer (some ⟨bc, 0, none⟩)] w fun v w' => v = .bool (decide (q.comp = c)) ∧ Same w w' := by
 refine f64_ok ?_
 unfold f64
 refine knew_of fun w2 hm2 hs2 hb2 => ?_
 have hb2 : blk w2 w.heap.size = some (.cells q.cells.toArray 47) := hb2
 have hbc := hm2.get hb (fun h => h)
 refine kfld_of ?_
 refine kld_of (v := .int .i64 q.comp) hb2 (by simp [Part.cells]) ?_
 refine kld_at hbc rfl ?_
 refine eql_at ?_
 exact ⟨rfl, hm2⟩
theorem indexP_spec {w : World} {a : Option Addr} {L : List Part} {cp : Nat} (hs : SlIs w a L.length 6 (L.flatMap Part.cells)) {bc : Nat} {c : Int} (hb : blk w bc = some (.cells #[.int .i64 c] 3)) {k : Nat} (hk : k < L.length) (hkc : (L[k]).comp = c) (hbef : ∀ j (hj : j < L.length), j < k → (L[j]).comp ≠ c) (hlen : L.length ≤ 1000000) :
  Meets Tryz.prog 115 #[.slice a L.length cp, .func (.func 64) #[] #[.pointer (some ⟨bc, 0, none⟩)]] w fun v w' => v = .int .i64 k ∧ Same w w' := by
 refine f115_ok ?_
 unfold f115
 refine klen_at ?_
 refine kL1_of L.length (fun j x wr => x = .int .i64 j ∧ j ≤ k ∧ Same w wr) ⟨lI1_0 ⟨rfl, by omega, Mod.refl _ _⟩, fun x wr hx => ?_⟩
 obtain ⟨j, hj, ⟨rfl, hjk, hm⟩, hJ⟩ := lI1_step hx
 unfold f115_0
 refine lss_at ?_
 refine kB_at ?_
 refine kIf_dec (fun hlt => ?_) (fun hge => ?_)
 ·have hlt : j < L.length := by omega
  unfold f115_1
  refine kixldN_of (F := Part.cells) (sz := 6) (fun _ => rfl) (by omega) (hs.same hm) hlt rfl ?_
  refine kcallC_of (isComp_spec L[j] (hm.get hb (fun h => h))) ?_
  rintro v w7 ⟨rfl, h7⟩
  by_cases hjk' : j = k
  ·subst hjk'
   rw [hkc]
   rw [decT rfl]
   refine kB_at ?_
   refine kIf_T rfl ?_
   exact ⟨rfl, hm.trans h7⟩
  ·rw [decF (hbef j hlt (by omega))]
   refine kB_at ?_
   refine kIf_F rfl ?_
   unfold f115_2
   refine add_at (by omega) (by omega) ?_
   rw [cast_succ]
   exact hJ _ _ hlt ⟨rfl, by omega, hm.trans h7⟩
 ·omega
def Moved (L M : List Part) (k t : Nat) : Prop := M.length = L.length ∧ ∀ x, M[x]? = if x < k ∨ k + t ≤ x then L[x]? else L[x + 1]?
theorem Moved.zero (L : List Part) (k : Nat) : Moved L L k 0 := ⟨rfl, fun x => by rw [if_pos (by omega)]⟩
theorem Moved.step {L M : List Part} {k t : Nat} (h : Moved L M k t) (hk : k + t + 1 < L.length) : Moved L (M.set (k + t) L[k + t + 1]) k (t + 1) := by
 obtain ⟨h1, h2⟩ := h
 refine ⟨by simpa using h1, fun x => ?_⟩
 rw [List.getElem?_set]
 by_cases hx : k + t = x
 ·subst hx
  rw [if_pos rfl, if_pos (by omega), if_neg (by omega), List.getElem?_eq_getElem hk]
 ·rw [if_neg hx, h2 x]
  by_cases h3 : x < k ∨ k + t ≤ x
  ·rw [if_pos h3, if_pos (by omega)]
  ·rw [if_neg h3, if_neg (by omega)]
theorem Moved.done {L M : List Part} {k t : Nat} (h : Moved L M k t) (hk : k + t + 1 = L.length) : M.take (L.length - 1) = L.eraseIdx k := by
 obtain ⟨h1, h2⟩ := h
 apply List.ext_getElem?
 intro x
 rw [List.getElem?_take, List.getElem?_eraseIdx, h2 x]
 by_cases hx : x < L.length - 1
 ·rw [if_pos hx]
  by_cases h3 : x < k
  ·rw [if_pos (.inl h3), if_pos h3]
  ·rw [if_neg (by omega), if_neg h3]
 ·rw [if_neg hx]
  by_cases h3 : x < k
  ·omega
  ·rw [if_neg h3]
   symm
   simp; omega
theorem deleteP_spec {w : World} {v : Value} {L : List Part} (hO : Own w v 6 (L.flatMap Part.cells)) {bc : Nat} {c : Int} (hb : blk w bc = some (.cells #[.int .i64 c] 3)) (hvb : ¬ vblk v bc) {k : Nat} (hk : k < L.length) (hkc : (L[k]).comp = c) (hone : ∀ j (hj : j < L.length), j ≠ k → (L[j]).comp ≠ c) (hlen : L.length ≤ 1000000) :
  Meets Tryz.prog 63 #[v, .func (.func 64) #[] #[.pointer (some ⟨bc, 0, none⟩)]] w fun v' w' => Own w' v' 6 ((L.eraseIdx k).flatMap Part.cells) ∧ Mod (vblk v) w w' ∧ ∀ b, vblk v' b → vblk v b := by
 obtain ⟨bv, cp, arr, t, rfl, hbv, s1, s2, s3⟩ := hO.viewF (F := Part.cells) (sz := 6) (fun _ => rfl) (by omega) (show 0 < L.length by omega)
 obtain ⟨sa, sn, sc, e, hsl, _⟩ := hO.is
 cases e
 have nvc : bc ≠ bv := fun e => hvb (by subst e; exact ⟨0, _, _, rfl⟩)
 have hmv : ∀ {w1 w2 : World}, Mod (fun k => k = bv) w1 w2 → Mod (vblk (.slice (some ⟨bv, 0, none⟩) L.length cp)) w1 w2 := fun h => h.mono fun k _ e => by subst e; exact ⟨0, _, _, rfl⟩
 refine f63_ok ?_
 unfold f63
 refine kcall_of (indexP_spec hsl hb hk hkc (fun j hj hjk => hone j hj (by omega)) hlen) ?_
 rintro v w2 ⟨rfl, h2⟩
 rw [show IntKind.i64 = IntKind.i64 from rfl]
 refine eql_at ?_
 rw [decF (by omega)]
 refine kB_at ?_
 refine kIf_F rfl ?_
 unfold f63_0
 refine add_at (by omega) (by omega) ?_
 rw [cast_succ]
 refine kL2_of (L.length - 1 - k) (fun t x y wr => x = .int .i64 ((k + t : Nat) : Int) ∧ y = .int .i64 ((k + t + 1 : Nat) : Int) ∧ k + t + 1 ≤ L.length ∧ ∃ M, Moved L M k t ∧ Own wr (.slice (some ⟨bv, 0, none⟩) L.length cp) 6 (M.flatMap Part.cells) ∧ Mod (fun k => k = bv) w wr) ⟨lI2_0 ⟨rfl, rfl, by omega, L, Moved.zero L k, hO.same h2, Mod.of_same h2⟩, fun x y wr hx => ?_⟩
 obtain ⟨u, hu, ⟨rfl, rfl, hle, M, hM, hOM, hm⟩, hJ⟩ := lI2_step hx
 have hbr := hm.get hb nvc
 obtain ⟨hMl, hMx⟩ := id hM
 obtain ⟨bv', cp', arr', t', e', hbv', s1', s2', s3'⟩ := hOM.viewF (F := Part.cells) (sz := 6) (fun _ => rfl) (by omega) (show 0 < M.length by omega)
 rw [hMl] at e' s1' s2'
 cases e'
 unfold f63_1
 refine klen_at ?_
 refine lss_at ?_
 refine kB_at ?_
 refine kIf_dec (fun hlt => ?_) (fun hge => ?_)
 ·have hlt : k + u + 1 < L.length := by omega
  have hMj : M[k + u + 1]'(by omega) = L[k + u + 1] := by
   have := hMx (k + u + 1)
   rw [if_pos (by omega), List.getElem?_eq_getElem (by omega), List.getElem?_eq_getElem hlt] at this
   exact Option.some.inj this
  have hsj := s3' (k + u + 1) (by omega)
  rw [hMj] at hsj
  have hqc := hone (k + u + 1) hlt (by omega)
  have hstep := hM.step hlt
  generalize hq : L[k + u + 1] = q at *
  unfold f63_2
  rw [kix_slice]
  refine kG_of (by omega) ?_
  rw [add_mk, Nat.zero_add, Int.toNat_natCast]
  refine kldN_at hbv' hsj (by omega) ?_
  refine knew_of fun w11 h11 hs11 hb11 => ?_
  refine kst_of (vs := q.cells) hb11 rfl rfl rfl (by simp) (by simp [Part.cells]) fun w12 h12 hs12 hb12 => ?_
  have hb12 : blk w12 wr.heap.size = some (.cells q.cells.toArray 47) := hb12
  have m12 : Same wr w12 := h11.trans' (h12.mono fun k _ e => .inr (by omega))
  refine kldN_at hb12 rfl (by omega) ?_
  refine kcallC_of (isComp_spec q (m12.get hbr (fun h => h))) ?_
  rintro v w15 ⟨rfl, h15⟩
  rw [decF hqc]
  refine not_at ?_
  refine kB_at ?_
  refine kIf_T rfl ?_
  have hb15 := h15.get hb12 (fun h => h)
  have m15 := m12.trans h15
  have hbv15 := m15.get hbv' (fun h => h)
  refine kldN_at hb15 rfl (by omega) ?_
  rw [kix_slice]
  refine kG_of (by omega) ?_
  rw [add_mk, Nat.zero_add, Int.toNat_natCast]
  have hsg := (segL_spec _ _ _ _ (s3' (k + u) (by omega))).1
  rw [Array.length_toList] at hsg
  refine kst_of (vs := q.cells) hbv15 rfl rfl rfl hsg (by simp [Part.cells]) fun w19 h19 hs19 hb19 => ?_
  refine add_at (by omega) (by omega) ?_
  refine add_at (by omega) (by omega) ?_
  rw [cast_succ, cast_succ]
  refine hJ _ _ _ (by omega) ⟨by rw [Nat.add_assoc], by congr 1, by omega, _, hstep, ?_, hm.trans ((Mod.of_same m15).trans h19)⟩
  exact Own.setF (F := Part.cells) (fun _ => rfl) hOM hbv' (x := q) (i := k + u) hb19 (by omega)
 ·have hge : k + u + 1 = L.length := by omega
  unfold f63_4
  refine ksl_sl_lo (by omega) s1 (by omega) ?_
  rw [show L.length - (k + u) = 1 by omega, Nat.zero_add]
  have hsg := (segL_spec _ _ _ _ (s3' (k + u) (by omega))).1
  rw [Array.length_toList] at hsg
  refine ksem_clear1 hbv' hsg fun w25 h25 hs25 hb25 => ?_
  refine ksl_sl_hi (by omega) ?_
  refine ⟨?_, hmv (hm.trans h25), ?_⟩
  ·have g1 := Own.setF (F := Part.cells) (fun _ => rfl) hOM hbv' (x := ⟨0, 0, 0, 0, 0, 0⟩) (i := k + u) hb25 (by omega)
   have g2 := g1.cutN (k := k + u) (by omega)
   rw [← flat_take (F := Part.cells) (fun _ => rfl), List.take_set_of_le (by omega)] at g2
   have e := hM.done hge
   rw [show L.length - 1 = k + u by omega] at e
   rw [e] at g2
   exact g2
  ·rintro b ⟨_, _, _, e⟩; cases e; exact ⟨_, _, _, rfl⟩
end
section
attribute [local irreducible] kO kB kStr kInt kN kG kIf kfld kld kldN kst knew kmap kbld kbldS kext kcnv klenStr klen kcap kprt kprtN kbool kint kstr keq kun ksl kix kiv kta kmk kmm ksem ksemU kextf kcallV kcallM kcall kL
def layA (S : SM) : SM := layS S (S.masks.length - S.tabs.length)
def Turns (w : World) (bc : Nat) (f : FuncId) (caps : Array Value) (L L2 : List Part) : Prop :=
 ∀ (w1 : World) (sv : Value), w.heap.size ≤ w1.heap.size → blk w1 bc = blk w bc → (∀ k, vblk sv k → w.heap.size ≤ k) → Own w1 sv 6 (L.flatMap Part.cells) →
  Meets Tryz.prog f (#[sv] ++ caps) w1 fun v w2 => Own w2 v 6 (L2.flatMap Part.cells) ∧ Mod (vblk sv) w1 w2 ∧ ∀ k, vblk v k → vblk sv k ∨ w1.heap.size ≤ k
theorem sMove_spec {o : Lab} {w : World} (hD : DeAt w) {b : Nat} {p : Ptrs} {S : SM} (h : StoreP o w b p S) (hDo : o 9 = none) {i : Nat} {g : Int} {n r m nd : Nat} {gm : Int} (hs : S.spots[i]? = some (n, r)) (hn : n < (layA S).tabs.length) (hr : r < (layA S).tabs[n].rows.length) (hcol : ∀ c ∈ compsM S.masks n, ((layA S).tabs[n].col c).length = (layA S).tabs[n].rows.length)
  (hlast : (layA S).tabs[n].rows[(layA S).tabs[n].rows.length - 1]'(by omega) = ((m : Int), gm)) (hm : m < S.spots.length) (hrl : (layA S).tabs[n].rows.length ≤ 1000000)
  {bc : Nat} (hbc : bc < w.heap.size) (hbo : o bc = none) {f : FuncId} {caps : Array Value} {L2 : List Part} (hT : Turns w bc f caps ((compsM S.masks n).map (partAt (layA S).tabs[n] r)) L2)
  (hnd : nd < (leaveS (layA S) n r m hn).tabs.length) (hn16 : L2.length ≤ 64) (hf : ∀ q ∈ L2, FitsP S.cs q) (hin : ∀ q ∈ L2, ∃ c : Nat, q.comp = (c : Int) ∧ c ∈ compsM S.masks nd) (hcol2 : ∀ c ∈ compsM S.masks nd, ((leaveS (layA S) n r m hn).tabs[nd].col c).length + L2.length < 1000000) (hrows2 : (leaveS (layA S) n r m hn).tabs[nd].rows.length < 1000000) :
  Meets Tryz.prog 59 #[ptrV b, entV i g, natV nd, .func (.func f) #[] caps] w fun v w' => v = .nilIface ∧ Turned o w b (enterS (leaveS (layA S) n r m hn) nd i g L2 hnd) w' := by
 have hi : i < S.spots.length := (List.getElem?_eq_some_iff.1 hs).1
 refine f59_ok ?_
 unfold f59
 refine knew_of fun w2 hm2 hs2 hb2 => ?_
 have hb2 : blk w2 w.heap.size = some (.cells #[.int .i64 i, .int .i64 g] 37) := hb2
 have hP2 := h.cut hm2
 have hcutn : ∀ k, w.heap.size ≤ k → cutL o w.heap.size k = none := fun k hk => cutL_none hk
 have hDo0 : cutL o w.heap.size 9 = none := by
  unfold cutL; split
  ·exact hDo
  ·rfl
 have hbo0 : cutL o w.heap.size bc = none := by
  unfold cutL; rw [if_pos hbc]; exact hbo
 refine kcall_of (sLay_spec (hD.same hm2) hP2 hDo0) ?_
 rintro v w4 ⟨rfl, o1, p1, hl1, hP4, hm4, hc4⟩
 have hP4 : StoreP o1 w4 b p1 (layA S) := hP4
 have hsz4 := hm4.size
 have hu1 : ∀ k, k < w2.heap.size → cutL o w.heap.size k = none → o1 k = none := fun k hk e => by rw [hl1 k hk]; exact e
 have hb4 := hm4.get hb2 (fun ⟨t, e1, _⟩ => by rw [hcutn _ (Nat.le_refl _)] at e1; cases e1)
 rw [keq_nil_nil' ifErr]
 refine kB_at ?_
 refine kIf_F rfl ?_
 unfold f59_0
 refine kldN_at hb4 rfl (by omega) ?_
 refine kcall_of (sLeave_spec hP4 (g := g) (gm := gm) hs hn hr hcol hlast hm hrl) ?_
 rintro v w9 ⟨sv, rfl, hOs, hfs, hP9, hm9⟩
 have hsz9 := hm9.size
 have hb9 := hm9.get hb4 (fun ⟨t, e1, _⟩ => by rw [hu1 _ (by omega) (hcutn _ (Nat.le_refl _))] at e1; cases e1)
 have hbc9 : blk w9 bc = blk w bc := by
  have e1 : blk w2 bc = blk w bc := hm2.kept bc hbc (fun h => h)
  have e2 : blk w4 bc = blk w2 bc := hm4.kept bc (by omega) (fun ⟨t, e1, _⟩ => by rw [hbo0] at e1; cases e1)
  have e3 : blk w9 bc = blk w4 bc := hm9.kept bc (by omega) (fun ⟨t, e1, _⟩ => by rw [hu1 _ (by omega) hbo0] at e1; cases e1)
  rw [e3, e2, e1]
 refine kext_at rfl ?_
 refine kext_at rfl ?_
 rw [keq_nil_nil' ifErr]
 refine kB_at ?_
 refine kIf_F rfl ?_
 unfold f59_1
 have md : Same w9 w9.drew := (Mod.refl (fun _ => False) _).drew
 have hb9 := md.get hb9 (fun h => h)
 have hbc9 : blk w9.drew bc = blk w bc := hbc9
 have hOs := hOs.same md
 have hP9 := hP9.same md
 have hm9 := hm9.trans (Mod.of_same md)
 have hsz9 : w4.heap.size ≤ w9.drew.heap.size := hsz9
 generalize w9.drew = wa at *
 refine kldN_at hb9 rfl (by omega) ?_
 refine kG_of rfl ?_
 refine kcallC_of (hT wa sv (by omega) hbc9 (fun k hk => by have := hfs k hk; omega) hOs) ?_
 rintro v w16 ⟨hOv, hm16, hfv⟩
 have hb16 := hm16.get hb9 (fun e => by have := hfs _ e; omega)
 refine kG_of (kldN_at hb16 rfl (by omega) ⟨rfl, rfl⟩) ?_
 have hP16 := hP9.frame hm16 (fun k t e ek => by rw [cutL_none (hfs k ek)] at e; cases e) (LabEq.refl _ _)
 obtain ⟨sa, sn, sc, rfl, hsl, _⟩ := hOv.is
 have hsn : sn = L2.length := by
  have := hsl.1
  rw [flat_len Part.cells 6 (fun _ => rfl)] at this
  omega
 subst hsn
 refine kcall_of (sEnter_spec hP16 hnd (i := i) (by simpa [leaveS, layA, layS] using hi) g hsl (fun k f e => cutL_none ((hfv k ⟨f, L2.length, sc, by rw [e]⟩).elim (fun h => hfs k h) (fun h => by omega))) hn16 hf hin hcol2 hrows2) ?_
 rintro v w18 ⟨rfl, h18⟩
 refine ⟨rfl, Turned.wrap hm2 ?_ (Mod.refl _ _)⟩
 refine Turned.seq (o1 := o1) (w1 := w4) hl1 hm4 (Mod.refl _ _) ?_
 exact Turned.seq (o1 := cutL o1 w4.heap.size) (w1 := w16) (LabEq.cut _ _) (hm9.trans' (hm16.mono fun k _ e => .inr (hfs k e))) (Mod.refl _ _) h18
end
section
theorem takeRow_get {α : Type} (l : List α) {r : Nat} (hr : r < l.length) (x : Nat) : (takeRow l r)[x]? = if x < l.length - 1 then (if x = r then l[l.length - 1]? else l[x]?) else none := by
 rw [takeRow_eq (by omega), List.getElem?_take]
 by_cases hx : x < l.length - 1
 ·rw [if_pos hx, if_pos hx, List.getElem?_set]
  by_cases h : x = r
  ·subst h
   rw [if_pos rfl, if_pos hr, if_pos rfl, List.getElem?_eq_getElem]
  ·rw [if_neg (fun e => h e.symm), if_neg h]
 ·rw [if_neg hx, if_neg hx]
theorem takeRow_len {α : Type} (l : List α) {r : Nat} (hr : r < l.length) : (takeRow l r).length = l.length - 1 := by
 rw [takeRow_eq (by omega)]
 simp
structure WFe (S : SM) (ex : Nat → Prop) : Prop where
 gs : S.gens.length = S.spots.length
 live : ∀ i g, S.gens[i]? = some (g, true) → ¬ ex i → ∃ n r T, S.spots[i]? = some (n, r) ∧ S.tabs[n]? = some T ∧ T.rows[r]? = some ((i : Int), g)
 rows : ∀ n T r e, S.tabs[n]? = some T → T.rows[r]? = some e → ∃ i : Nat, e.1 = (i : Int) ∧ ¬ ex i ∧ S.gens[i]? = some (e.2, true) ∧ S.spots[i]? = some (n, r)
 cols : ∀ n T c, S.tabs[n]? = some T → c ∈ compsM S.masks n → (T.col c).length = T.rows.length
def WF (S : SM) : Prop := WFe S fun _ => False
def partsOf (S : SM) (i : Nat) : List Part := match S.spots[i]? with
 | some (n, r) => match S.tabs[n]? with
  | some T => (compsM S.masks n).map (partAt T r)
  | none => []
 | none => []
theorem partsOf_eq {S : SM} {i n r : Nat} {T : TabM} (h : S.spots[i]? = some (n, r)) (hT : S.tabs[n]? = some T) : partsOf S i = (compsM S.masks n).map (partAt T r) := by
 unfold partsOf; simp [h, hT]
theorem WFe.rows_le {S : SM} {ex : Nat → Prop} (h : WFe S ex) {n : Nat} {T : TabM} (hT : S.tabs[n]? = some T) : T.rows.length ≤ S.spots.length := by
 have hnd : ((List.range T.rows.length).map fun r => ((T.rows[r]?).getD (0, 0)).1.toNat).Nodup := by
  unfold List.Nodup
  rw [List.pairwise_map]
  refine List.nodup_range.imp_of_mem fun {a b} ha hb hab e => ?_
  have ha : a < T.rows.length := by simpa using ha
  have hb : b < T.rows.length := by simpa using hb
  obtain ⟨i, e1, _, _, s1⟩ := h.rows n T a _ hT (List.getElem?_eq_getElem ha)
  obtain ⟨j, e2, _, _, s2⟩ := h.rows n T b _ hT (List.getElem?_eq_getElem hb)
  simp only [List.getElem?_eq_getElem ha, List.getElem?_eq_getElem hb, Option.getD_some, e1, e2, Int.toNat_natCast] at e
  subst e
  rw [s1] at s2
  cases s2
  exact hab rfl
 have := List.Nodup.length_le_of_subset hnd (l₂ := List.range S.spots.length) (fun x hx => by
  obtain ⟨r, hr, rfl⟩ := List.mem_map.1 hx
  have hr : r < T.rows.length := by simpa using hr
  obtain ⟨i, e1, _, _, s1⟩ := h.rows n T r _ hT (List.getElem?_eq_getElem hr)
  simp only [List.getElem?_eq_getElem hr, Option.getD_some, e1, Int.toNat_natCast]
  simpa using (List.getElem?_eq_some_iff.1 s1).1)
 simpa using this
theorem WFe.stand {S : SM} {ex : Nat → Prop} (h : WFe S ex) {i : Nat} {g : Int} (hg : S.gens[i]? = some (g, true)) (hx : ¬ ex i) : ∃ n r, S.spots[i]? = some (n, r) ∧ ∃ hn : n < S.tabs.length, ∃ hr : r < (S.tabs[n]).rows.length, (S.tabs[n]).rows[r] = ((i : Int), g) ∧
  ∃ (m : Nat) (gm : Int), (S.tabs[n]).rows[(S.tabs[n]).rows.length - 1]'(by omega) = ((m : Int), gm) ∧ m < S.spots.length ∧ S.spots[m]? = some (n, (S.tabs[n]).rows.length - 1) := by
 obtain ⟨n, r, T, h1, h2, h3⟩ := h.live i g hg hx
 obtain ⟨hn, e⟩ := List.getElem?_eq_some_iff.1 h2
 subst e
 obtain ⟨hr, e⟩ := List.getElem?_eq_some_iff.1 h3
 obtain ⟨m, e1, _, _, s1⟩ := h.rows n _ ((S.tabs[n]).rows.length - 1) _ h2 (List.getElem?_eq_getElem (by omega))
 refine ⟨n, r, h1, hn, hr, e, m, _, Prod.ext e1 rfl, (List.getElem?_eq_some_iff.1 s1).1, s1⟩
theorem leaveS_tabs {S : SM} {n r m : Nat} (hn : n < S.tabs.length) (k : Nat) : (leaveS S n r m hn).tabs[k]? = if k = n then some ⟨takeRow S.tabs[n].rows r, fun c => takeRow (S.tabs[n].col c) r⟩ else S.tabs[k]? := by
 unfold leaveS
 rw [List.getElem?_set]
 by_cases h : n = k
 ·subst h; rw [if_pos rfl, if_pos hn, if_pos rfl]
 ·rw [if_neg h, if_neg (fun e => h e.symm)]
theorem leaveS_spots {S : SM} {n r m : Nat} (hn : n < S.tabs.length) (hm : m < S.spots.length) (k : Nat) : (leaveS S n r m hn).spots[k]? = if k = m then some (n, r) else S.spots[k]? := by
 unfold leaveS
 rw [List.getElem?_set]
 by_cases h : m = k
 ·subst h; rw [if_pos rfl, if_pos hm, if_pos rfl]
 ·rw [if_neg h, if_neg (fun e => h e.symm)]
theorem WFe.leave {S : SM} (h : WF S) {i n r m : Nat} {g gm : Int} (hs : S.spots[i]? = some (n, r)) (hn : n < S.tabs.length) (hr : r < (S.tabs[n]).rows.length) (hri : (S.tabs[n]).rows[r] = ((i : Int), g))
  (hl : (S.tabs[n]).rows[(S.tabs[n]).rows.length - 1]'(by omega) = ((m : Int), gm)) (hm : m < S.spots.length) (hsm : S.spots[m]? = some (n, (S.tabs[n]).rows.length - 1)) :
  WFe (leaveS S n r m hn) (· = i) ∧ ∀ j gj, j ≠ i → S.gens[j]? = some (gj, true) → partsOf (leaveS S n r m hn) j = partsOf S j := by
 have hTn : S.tabs[n]? = some S.tabs[n] := List.getElem?_eq_getElem hn
 have hT' := leaveS_tabs (r := r) (m := m) hn
 have hS' := leaveS_spots (r := r) hn hm
 have hlq : (S.tabs[n]).rows[(S.tabs[n]).rows.length - 1]? = some ((m : Int), gm) := by rw [List.getElem?_eq_getElem (by omega), hl]
 have hrow := takeRow_get (S.tabs[n]).rows hr
 have hmi : m = i → r = (S.tabs[n]).rows.length - 1 := fun e => by subst e; rw [hs] at hsm; cases hsm; rfl
 have him : r = (S.tabs[n]).rows.length - 1 → m = i := fun e => by
  have : (S.tabs[n]).rows[r]? = some ((m : Int), gm) := by rw [e]; exact hlq
  rw [List.getElem?_eq_getElem hr, hri] at this
  simp at this; omega
 have key : ∀ j gj, j ≠ i → S.gens[j]? = some (gj, true) → ∃ n' r' T', (leaveS S n r m hn).spots[j]? = some (n', r') ∧ (leaveS S n r m hn).tabs[n']? = some T' ∧ T'.rows[r']? = some ((j : Int), gj) ∧
   ∃ r0 T0, S.spots[j]? = some (n', r0) ∧ S.tabs[n']? = some T0 ∧ ∀ c ∈ compsM S.masks n', (T'.col c)[r']? = (T0.col c)[r0]? := by
  intro j gj hj hgj
  obtain ⟨n', r', T', h1, h2, h3⟩ := h.live j gj hgj (fun h => h)
  by_cases hnn : n' = n
  ·subst hnn
   rw [hTn] at h2; cases h2
   have hr'l := (List.getElem?_eq_some_iff.1 h3).1
   have hrr : r' ≠ r := fun e => by
    subst e
    rw [List.getElem?_eq_getElem hr, hri] at h3
    simp at h3; omega
   by_cases hlast : r' = (S.tabs[n']).rows.length - 1
   ·have hjm : j = m := by
     rw [hlast, hlq] at h3
     simp at h3; omega
    subst hjm
    refine ⟨n', r, _, by rw [hS', if_pos rfl], by rw [hT', if_pos rfl], ?_, r', _, h1, hTn, fun c hc => ?_⟩
    ·show (takeRow _ r)[r]? = _
     rw [hrow, if_pos (by omega), if_pos rfl, ← hlast, h3]
    ·show (takeRow ((S.tabs[n']).col c) r)[r]? = _
     have hcl := h.cols n' _ c hTn hc
     rw [takeRow_get _ (by omega), hcl, if_pos (by omega), if_pos rfl, hlast]
   ·refine ⟨n', r', _, by rw [hS', if_neg (fun e => by subst e; rw [hsm] at h1; cases h1; exact hlast rfl)]; exact h1, by rw [hT', if_pos rfl], ?_, r', _, h1, hTn, fun c hc => ?_⟩
    ·show (takeRow _ r)[r']? = _
     rw [hrow, if_pos (by omega), if_neg hrr, h3]
    ·show (takeRow ((S.tabs[n']).col c) r)[r']? = _
     have hcl := h.cols n' _ c hTn hc
     rw [takeRow_get _ (by omega), hcl, if_pos (by omega), if_neg hrr]
  ·exact ⟨n', r', T', by rw [hS', if_neg (fun e => by subst e; rw [hsm] at h1; cases h1; exact hnn rfl)]; exact h1, by rw [hT', if_neg hnn]; exact h2, h3, r', T', h1, h2, fun c _ => rfl⟩
 refine ⟨⟨?_, ?_, ?_, ?_⟩, ?_⟩
 ·show S.gens.length = (S.spots.set m (n, r)).length
  rw [List.length_set]; exact h.gs
 ·intro j gj hgj hj
  obtain ⟨n', r', T', k1, k2, k3, _⟩ := key j gj hj hgj
  exact ⟨n', r', T', k1, k2, k3⟩
 ·intro n' T' r' e hTq hre
  rw [hT'] at hTq
  by_cases hnn : n' = n
  ·subst hnn
   rw [if_pos rfl] at hTq
   cases hTq
   have hre : (takeRow (S.tabs[n']).rows r)[r']? = some e := hre
   rw [hrow] at hre
   by_cases hlt : r' < (S.tabs[n']).rows.length - 1
   ·rw [if_pos hlt] at hre
    by_cases hrr : r' = r
    ·subst hrr
     rw [if_pos rfl, hlq] at hre
     cases hre
     obtain ⟨m', e1, _, e3, e4⟩ := h.rows n' _ _ _ hTn hlq
     have : m' = m := by simp at e1; omega
     subst this
     exact ⟨m', rfl, fun e => by have := hmi e; omega, e3, by rw [hS', if_pos rfl]⟩
    ·rw [if_neg hrr] at hre
     obtain ⟨j, e1, _, e3, e4⟩ := h.rows n' _ _ _ hTn hre
     refine ⟨j, e1, fun e => ?_, e3, ?_⟩
     ·subst e; rw [hs] at e4; cases e4; exact hrr rfl
     ·rw [hS', if_neg (fun e => by subst e; rw [hsm] at e4; cases e4; omega)]; exact e4
   ·rw [if_neg hlt] at hre; cases hre
  ·rw [if_neg hnn] at hTq
   obtain ⟨j, e1, _, e3, e4⟩ := h.rows n' _ _ _ hTq hre
   refine ⟨j, e1, fun e => ?_, e3, ?_⟩
   ·subst e; rw [hs] at e4; cases e4; exact hnn rfl
   ·rw [hS', if_neg (fun e => by subst e; rw [hsm] at e4; cases e4; exact hnn rfl)]; exact e4
 ·intro n' T' c hTq hc
  rw [hT'] at hTq
  by_cases hnn : n' = n
  ·subst hnn
   rw [if_pos rfl] at hTq
   cases hTq
   have hcl := h.cols n' _ c hTn hc
   show (takeRow ((S.tabs[n']).col c) r).length = (takeRow (S.tabs[n']).rows r).length
   rw [takeRow_len _ (by omega), takeRow_len _ hr, hcl]
  ·rw [if_neg hnn] at hTq
   exact h.cols n' _ c hTq hc
 ·intro j gj hj hgj
  obtain ⟨n', r', T', k1, k2, k3, r0, T0, k4, k5, k6⟩ := key j gj hj hgj
  rw [partsOf_eq k1 k2, partsOf_eq k4 k5]
  refine List.map_congr_left fun c hc => ?_
  unfold partAt
  rw [k6 c hc]
end
section
theorem filt_parts (z : Part) : ∀ (comps : List Nat) (L : List Part), L.map (·.comp) = comps.map (fun c : Nat => (c : Int)) → comps.Nodup →
  (∀ c ∈ comps, (L.filter fun q => decide (q.comp = (c : Int))).length = 1) ∧ comps.map (fun c : Nat => ((L.filter fun q => decide (q.comp = (c : Int)))[0]?).getD z) = L
 | [], L, h, _ => by
  cases L with
  | nil => simp
  | cons q L => simp at h
 | c :: cs, [], h, _ => by simp at h
 | c :: cs, q :: L, h, hn => by
  rw [List.map_cons, List.map_cons, List.cons.injEq] at h
  rw [List.nodup_cons] at hn
  obtain ⟨i1, i2⟩ := filt_parts z cs L h.2 hn.2
  have hq : decide (q.comp = (c : Int)) = true := decide_eq_true h.1
  have hd : ∀ d ∈ cs, decide (q.comp = (d : Int)) = false := fun d hd => decide_eq_false fun e => by
   have : d = c := by have := h.1; omega
   subst this; exact hn.1 hd
  have hL : L.filter (fun q => decide (q.comp = (c : Int))) = [] := by
   rw [List.filter_eq_nil_iff]
   intro x hx
   have hm : x.comp ∈ cs.map (fun c : Nat => (c : Int)) := h.2 ▸ List.mem_map.2 ⟨x, hx, rfl⟩
   obtain ⟨d, hdm, e⟩ := List.mem_map.1 hm
   have : ¬ x.comp = (c : Int) := fun e2 => by
    have : d = c := by omega
    subst this; exact hn.1 hdm
   simpa using this
  refine ⟨fun d hdm => ?_, ?_⟩
  ·rcases List.mem_cons.1 hdm with rfl | hdm
   ·rw [List.filter_cons_of_pos (by simpa using hq), hL]; rfl
   ·rw [List.filter_cons_of_neg (by simpa using hd d hdm)]; exact i1 d hdm
  ·rw [List.map_cons, List.filter_cons_of_pos (by simpa using hq)]
   congr 1
   refine Eq.trans (List.map_congr_left fun d hdm => ?_) i2
   rw [List.filter_cons_of_neg (by simpa using hd d hdm)]
theorem enterS_tabs {S : SM} {n i : Nat} {g : Int} {L : List Part} (hn : n < S.tabs.length) (k : Nat) : (enterS S n i g L hn).tabs[k]? = if k = n then some ⟨S.tabs[n].rows ++ [((i : Int), g)], (pushC S.tabs[n] L).col⟩ else S.tabs[k]? := by
 unfold enterS
 rw [List.getElem?_set]
 by_cases h : n = k
 ·subst h; rw [if_pos rfl, if_pos hn, if_pos rfl]
 ·rw [if_neg h, if_neg (fun e => h e.symm)]
theorem enterS_spots {S : SM} {n i : Nat} {g : Int} {L : List Part} (hn : n < S.tabs.length) (hi : i < S.spots.length) (k : Nat) : (enterS S n i g L hn).spots[k]? = if k = i then some (n, S.tabs[n].rows.length) else S.spots[k]? := by
 unfold enterS
 rw [List.getElem?_set]
 by_cases h : i = k
 ·subst h; rw [if_pos rfl, if_pos hi, if_pos rfl]
 ·rw [if_neg h, if_neg (fun e => h e.symm)]
theorem WFe.enter {S : SM} {i : Nat} (h : WFe S (· = i)) {g : Int} (hg : S.gens[i]? = some (g, true)) {n : Nat} (hn : n < S.tabs.length) {L : List Part} (hLc : L.map (·.comp) = (compsM S.masks n).map (fun c : Nat => (c : Int))) :
  WF (enterS S n i g L hn) ∧ partsOf (enterS S n i g L hn) i = L ∧ ∀ j gj, j ≠ i → S.gens[j]? = some (gj, true) → partsOf (enterS S n i g L hn) j = partsOf S j := by
 have hi : i < S.spots.length := by rw [← h.gs]; exact (List.getElem?_eq_some_iff.1 hg).1
 have hTn : S.tabs[n]? = some S.tabs[n] := List.getElem?_eq_getElem hn
 have hT' := enterS_tabs (i := i) (g := g) (L := L) hn
 have hS' := enterS_spots (g := g) (L := L) hn hi
 obtain ⟨f1, f2⟩ := filt_parts ⟨0, 0, 0, 0, 0, 0⟩ _ L hLc (compsM_nodup S.masks n)
 have key : ∀ j gj, j ≠ i → S.gens[j]? = some (gj, true) → ∃ n' r' T', (enterS S n i g L hn).spots[j]? = some (n', r') ∧ (enterS S n i g L hn).tabs[n']? = some T' ∧ T'.rows[r']? = some ((j : Int), gj) ∧
   ∃ T0, S.spots[j]? = some (n', r') ∧ S.tabs[n']? = some T0 ∧ ∀ c ∈ compsM S.masks n', (T'.col c)[r']? = (T0.col c)[r']? := by
  intro j gj hj hgj
  obtain ⟨n', r', T', h1, h2, h3⟩ := h.live j gj hgj hj
  by_cases hnn : n' = n
  ·subst hnn
   rw [hTn] at h2; cases h2
   have hr'l := (List.getElem?_eq_some_iff.1 h3).1
   refine ⟨n', r', _, by rw [hS', if_neg hj]; exact h1, by rw [hT', if_pos rfl], ?_, _, h1, hTn, fun c hc => ?_⟩
   ·show (S.tabs[n'].rows ++ _)[r']? = _
    rw [List.getElem?_append_left hr'l]; exact h3
   ·show (S.tabs[n'].col c ++ _)[r']? = _
    rw [List.getElem?_append_left (by rw [h.cols n' _ c hTn hc]; exact hr'l)]
  ·exact ⟨n', r', T', by rw [hS', if_neg hj]; exact h1, by rw [hT', if_neg hnn]; exact h2, h3, T', h1, h2, fun c _ => rfl⟩
 refine ⟨⟨?_, ?_, ?_, ?_⟩, ?_, ?_⟩
 ·show S.gens.length = (S.spots.set i _).length
  rw [List.length_set]; exact h.gs
 ·intro j gj hgj _
  by_cases hj : j = i
  ·subst hj
   have : S.gens[j]? = some (gj, true) := hgj
   rw [hg] at this; cases this
   refine ⟨n, S.tabs[n].rows.length, _, by rw [hS', if_pos rfl], by rw [hT', if_pos rfl], ?_⟩
   show (S.tabs[n].rows ++ _)[_]? = _
   rw [List.getElem?_append_right (by omega)]; simp
  ·obtain ⟨n', r', T', k1, k2, k3, _⟩ := key j gj hj hgj
   exact ⟨n', r', T', k1, k2, k3⟩
 ·intro n' T' r' e hTq hre
  rw [hT'] at hTq
  by_cases hnn : n' = n
  ·subst hnn
   rw [if_pos rfl] at hTq
   cases hTq
   have hre : (S.tabs[n'].rows ++ [((i : Int), g)])[r']? = some e := hre
   rcases Nat.lt_or_ge r' S.tabs[n'].rows.length with hlt | hge
   ·rw [List.getElem?_append_left hlt] at hre
    obtain ⟨j, e1, e2, e3, e4⟩ := h.rows n' _ _ _ hTn hre
    exact ⟨j, e1, fun h => h, e3, by rw [hS', if_neg e2]; exact e4⟩
   ·rw [List.getElem?_append_right hge] at hre
    have h0 : r' - S.tabs[n'].rows.length = 0 := by
     have := (List.getElem?_eq_some_iff.1 hre).1
     simp at this; omega
    rw [h0] at hre
    simp at hre
    subst hre
    exact ⟨i, rfl, fun h => h, hg, by rw [hS', if_pos rfl, show r' = S.tabs[n'].rows.length by omega]⟩
  ·rw [if_neg hnn] at hTq
   obtain ⟨j, e1, e2, e3, e4⟩ := h.rows n' _ _ _ hTq hre
   exact ⟨j, e1, fun h => h, e3, by rw [hS', if_neg e2]; exact e4⟩
 ·intro n' T' c hTq hc
  rw [hT'] at hTq
  by_cases hnn : n' = n
  ·subst hnn
   rw [if_pos rfl] at hTq
   cases hTq
   have hcl := h.cols n' _ c hTn hc
   have := f1 c hc
   show (S.tabs[n'].col c ++ L.filter _).length = (S.tabs[n'].rows ++ _).length
   rw [List.length_append, List.length_append, hcl, this]; rfl
  ·rw [if_neg hnn] at hTq
   exact h.cols n' _ c hTq hc
 ·have k1 := hS' i
  rw [if_pos rfl] at k1
  have k2 := hT' n
  rw [if_pos rfl] at k2
  rw [partsOf_eq k1 k2]
  refine Eq.trans (List.map_congr_left fun c hc => ?_) f2
  have hcl := h.cols n _ c hTn hc
  show ((S.tabs[n].col c ++ L.filter _)[S.tabs[n].rows.length]?).getD _ = _
  rw [List.getElem?_append_right (by omega), hcl, Nat.sub_self]
 ·intro j gj hj hgj
  obtain ⟨n', r', T', k1, k2, k3, T0, k4, k5, k6⟩ := key j gj hj hgj
  rw [partsOf_eq k1 k2, partsOf_eq k4 k5]
  refine List.map_congr_left fun c hc => ?_
  unfold partAt
  rw [k6 c hc]
theorem WFe.masks {S : SM} {ex : Nat → Prop} (h : WFe S ex) (ht : S.tabs.length ≤ S.masks.length) (m : Nat) : WFe { S with masks := addM S.masks m } ex ∧ ∀ j gj, ¬ ex j → S.gens[j]? = some (gj, true) → partsOf { S with masks := addM S.masks m } j = partsOf S j := by
 refine ⟨⟨h.gs, h.live, h.rows, fun n T c hT hc => ?_⟩, fun j gj hj hgj => ?_⟩
 ·have hn : n < S.tabs.length := (List.getElem?_eq_some_iff.1 hT).1
  refine h.cols n T c hT ?_
  rw [← compsM_addM (m := m) (by omega)]; exact hc
 ·obtain ⟨n, r, T, h1, h2, h3⟩ := h.live j gj hgj hj
  have hn := (List.getElem?_eq_some_iff.1 h2).1
  rw [partsOf_eq (S := { S with masks := addM S.masks m }) h1 h2, partsOf_eq h1 h2]
  show (compsM (addM S.masks m) n).map _ = _
  rw [compsM_addM (by omega)]
theorem layS_tabs {S : SM} {k n : Nat} {T : TabM} (h : (layS S k).tabs[n]? = some T) : S.tabs[n]? = some T ∨ T = TabM.empty := by
 unfold layS at h
 rcases Nat.lt_or_ge n S.tabs.length with hn | hn
 ·rw [List.getElem?_append_left hn] at h; exact .inl h
 ·rw [List.getElem?_append_right hn] at h
  have := (List.getElem?_eq_some_iff.1 h)
  obtain ⟨h1, h2⟩ := this
  rw [List.getElem_replicate] at h2
  exact .inr h2.symm
theorem WFe.lay {S : SM} {ex : Nat → Prop} (h : WFe S ex) (k : Nat) : WFe (layS S k) ex ∧ ∀ j gj, ¬ ex j → S.gens[j]? = some (gj, true) → partsOf (layS S k) j = partsOf S j := by
 have hup : ∀ {n T}, S.tabs[n]? = some T → (layS S k).tabs[n]? = some T := fun {n T} e => by
  unfold layS
  rw [List.getElem?_append_left (List.getElem?_eq_some_iff.1 e).1]; exact e
 refine ⟨⟨h.gs, fun i g hg hx => ?_, fun n T r e hT hr => ?_, fun n T c hT hc => ?_⟩, fun j gj hj hgj => ?_⟩
 ·obtain ⟨n, r, T, h1, h2, h3⟩ := h.live i g hg hx
  exact ⟨n, r, T, h1, hup h2, h3⟩
 ·rcases layS_tabs hT with hT | rfl
  ·exact h.rows n T r e hT hr
  ·cases hr
 ·rcases layS_tabs hT with hT | rfl
  ·exact h.cols n T c hT hc
  ·rfl
 ·obtain ⟨n, r, T, h1, h2, h3⟩ := h.live j gj hgj hj
  rw [partsOf_eq (S := layS S k) h1 (hup h2), partsOf_eq h1 h2]; rfl
theorem WFe.born {S : SM} (h : WF S) {i : Nat} {g0 g1 : Int} (hg : S.gens[i]? = some (g0, false)) (free : List Nat) : WFe (rollS S (S.gens.set i (g1, true)) free) (· = i) := by
 have hi := (List.getElem?_eq_some_iff.1 hg).1
 have hne : ∀ j, j ≠ i → (S.gens.set i (g1, true))[j]? = S.gens[j]? := fun j hj => by rw [List.getElem?_set_ne (fun e => hj e.symm)]
 refine ⟨by show (S.gens.set i _).length = _; rw [List.length_set]; exact h.gs, fun j g hgj hj => ?_, fun n T r e hT hr => ?_, h.cols⟩
 ·have hgj : (S.gens.set i (g1, true))[j]? = some (g, true) := hgj
  rw [hne j hj] at hgj
  exact h.live j g hgj (fun h => h)
 ·obtain ⟨j, e1, _, e3, e4⟩ := h.rows n T r e hT hr
  have hj : j ≠ i := fun e => by subst e; rw [hg] at e3; cases e3
  exact ⟨j, e1, hj, by show (S.gens.set i (g1, true))[j]? = _; rw [hne j hj]; exact e3, e4⟩
theorem comps_sorted {S : SM} (hcs : S.cs.length ≤ 16) {L L' : List Part} (hf : ∀ q ∈ L, FitsP S.cs q) (hnt : NoTwice L) (hp : L'.Perm L) (hs : L'.Pairwise (fun x y => x.comp ≤ y.comp)) : L'.map (·.comp) = (listF (maskP L)).map (fun c : Nat => (c : Int)) := by
 refine List.Perm.eq_of_pairwise (le := fun x y : Int => x ≤ y) (fun a b _ _ h1 h2 => by omega) ?_ ?_ ?_
 ·rw [List.pairwise_map]; exact hs
 ·rw [List.pairwise_map]; exact (listF_sorted _).imp (fun h => by omega)
 ·refine (hp.map _).trans ((List.perm_ext_iff_of_nodup hnt ?_).2 fun a => ?_)
  ·unfold List.Nodup
   rw [List.pairwise_map]
   exact (listF_nodup _).imp (fun h e => h (by omega))
  ·rw [List.mem_map, List.mem_map]
   constructor
   ·rintro ⟨q, hq, rfl⟩
    obtain ⟨d, e1, e2, _⟩ := hf q hq
    exact ⟨d, listF_mem.2 ⟨by omega, (maskP_bit S.cs hcs L hf d).2 ⟨q, hq, e1⟩⟩, e1.symm⟩
   ·rintro ⟨d, hd, rfl⟩
    obtain ⟨q, hq, e⟩ := (maskP_bit S.cs hcs L hf d).1 (listF_mem.1 hd).2
    exact ⟨q, hq, e⟩
end
section
def FreeOk (S : SM) : Prop := S.free.Nodup ∧ ∀ i, i ∈ S.free ↔ ∃ g, S.gens[i]? = some (g, false)
structure GS (S : SM) (t : Nat) : Prop where
 wf : WF S
 fr : FreeOk S
 gen : ∀ (i : Nat) (x : Int × Bool), S.gens[i]? = some x → 0 ≤ x.1 ∧ x.1 ≤ (t : Int)
 ml : S.masks.length ≤ t + 1
 g64 : S.gens.length ≤ 64
theorem addM_len (ms : List Nat) (m : Nat) : ms.length ≤ (addM ms m).length ∧ (addM ms m).length ≤ ms.length + 1 := by
 unfold addM; split <;> simp
theorem GS.bnd {S : SM} {t : Nat} (h : GS S t) : Bnd S := by
 intro n T hT
 have h1 := h.wf.rows_le hT
 have h2 := h.wf.gs
 have h3 := h.g64
 refine ⟨by omega, fun c hc => ?_⟩
 rw [h.wf.cols n T c hT hc]; omega
structure Born (S S' : SM) (L' : List Part) (i : Nat) (g : Int) : Prop where
 gens : S'.gens = S.gens.set i (g, true)
 cs : S'.cs = S.cs
 masks : S'.masks = addM S.masks (maskP L')
 tabs : S'.tabs.length = S'.masks.length
 free : S'.free = S.free.dropLast
 parts : partsOf S' i = L'
 others : ∀ j gj, j ≠ i → S.gens[j]? = some (gj, true) → partsOf S' j = partsOf S j
theorem maskP_perm {cs : List Comp} (hcs : cs.length ≤ 16) {L L' : List Part} (hp : L'.Perm L) (hf : ∀ q ∈ L, FitsP cs q) : maskP L' = maskP L := by
 have hf' : ∀ q ∈ L', FitsP cs q := fun q hq => hf q (hp.mem_iff.1 hq)
 apply Nat.eq_of_testBit_eq
 intro c
 rw [Bool.eq_iff_iff, maskP_bit cs hcs L' hf' c, maskP_bit cs hcs L hf c]
 exact ⟨fun ⟨q, h, e⟩ => ⟨q, hp.mem_iff.1 h, e⟩, fun ⟨q, h, e⟩ => ⟨q, hp.mem_iff.2 h, e⟩⟩
theorem GS.spawn {S : SM} {t : Nat} (h : GS S t) (ht : S.tabs.length ≤ S.masks.length) (hcs : S.cs.length ≤ 16) {K i : Nat} {g0 : Int} (hK : K + 1 = S.free.length) (hi : S.free[K]'(by omega) = i) (hg : S.gens[i]? = some (g0, false))
  {L L' : List Part} (hf : ∀ q ∈ L, FitsP S.cs q) (hnt : NoTwice L) (hp : L'.Perm L) (hs : L'.Pairwise (fun x y => x.comp ≤ y.comp)) :
  GS (spawnS S (maskP L) i (g0 + 1) L' ht (S.gens.set i (g0 + 1, true)) (S.free.take K)) (t + 1) ∧ Born S (spawnS S (maskP L) i (g0 + 1) L' ht (S.gens.set i (g0 + 1, true)) (S.free.take K)) L' i (g0 + 1) := by
 have hil := (List.getElem?_eq_some_iff.1 hg).1
 have w1 := WFe.born h.wf hg (g1 := g0 + 1) (S.free.take K)
 obtain ⟨w2, v2⟩ := w1.masks ht (maskP L)
 obtain ⟨w3, v3⟩ := w2.lay ((addM S.masks (maskP L)).length - S.tabs.length)
 have hn : (addM S.masks (maskP L)).idxOf (maskP L) < (laidS (rollS S (S.gens.set i (g0 + 1, true)) (S.free.take K)) (maskP L)).tabs.length := by
  have e := laidS_len (S := rollS S (S.gens.set i (g0 + 1, true)) (S.free.take K)) ht (maskP L)
  rw [e]; exact idx_addM_lt _ _
 have hgi : (laidS (rollS S (S.gens.set i (g0 + 1, true)) (S.free.take K)) (maskP L)).gens[i]? = some (g0 + 1, true) := by
  show (S.gens.set i (g0 + 1, true))[i]? = _
  rw [List.getElem?_set, if_pos rfl, if_pos hil]
 have hLc : L'.map (·.comp) = (compsM (laidS (rollS S (S.gens.set i (g0 + 1, true)) (S.free.take K)) (maskP L)).masks ((addM S.masks (maskP L)).idxOf (maskP L))).map (fun c : Nat => (c : Int)) := by
  show _ = (compsM (addM S.masks (maskP L)) _).map _
  unfold compsM
  rw [idx_addM]
  exact comps_sorted hcs hf hnt hp hs
 obtain ⟨w4, v4, v5⟩ := WFe.enter w3 hgi hn hLc
 have hlen : (spawnS S (maskP L) i (g0 + 1) L' ht (S.gens.set i (g0 + 1, true)) (S.free.take K)).tabs.length = (addM S.masks (maskP L)).length := by
  have e := laidS_len (S := rollS S (S.gens.set i (g0 + 1, true)) (S.free.take K)) ht (maskP L)
  show (List.set _ _ _).length = _
  rw [List.length_set]; exact e
 have hfl : S.free.take K = S.free.dropLast := by rw [List.dropLast_eq_take, show S.free.length - 1 = K by omega]
 have hsp : S.free = S.free.take K ++ [i] := by
  have := List.take_append_drop K S.free
  rw [List.drop_eq_getElem_cons (by omega), hi, List.drop_eq_nil_of_le (by omega)] at this
  exact this.symm
 refine ⟨⟨w4, ⟨?_, fun j => ?_⟩, fun j x hx => ?_, ?_, ?_⟩, ⟨rfl, rfl, ?_, hlen, hfl, v4, fun j gj hj hgj => ?_⟩⟩
 ·exact h.fr.1.sublist (List.take_sublist _ _)
 ·show j ∈ S.free.take K ↔ ∃ g, (S.gens.set i (g0 + 1, true))[j]? = some (g, false)
  have hnd := h.fr.1
  rw [hsp] at hnd
  have hin : i ∉ S.free.take K := fun hm => by
   have := (List.nodup_append.1 hnd).2.2 i hm i (by simp)
   exact this rfl
  by_cases hj : j = i
  ·subst hj
   rw [List.getElem?_set, if_pos rfl, if_pos hil]
   exact ⟨fun h => absurd h hin, fun ⟨g, e⟩ => by cases e⟩
  ·rw [List.getElem?_set_ne (fun e => hj e.symm), ← h.fr.2 j]
   constructor
   ·intro hm; exact List.mem_of_mem_take hm
   ·intro hm
    rw [hsp] at hm
    rcases List.mem_append.1 hm with hm | hm
    ·exact hm
    ·simp at hm; exact absurd hm hj
 ·have hx : (S.gens.set i (g0 + 1, true))[j]? = some x := hx
  by_cases hj : j = i
  ·subst hj
   rw [List.getElem?_set, if_pos rfl, if_pos hil] at hx
   cases hx
   have := h.gen j _ hg
   simp at this ⊢; omega
  ·rw [List.getElem?_set_ne (fun e => hj e.symm)] at hx
   have := h.gen j x hx
   push_cast; omega
 ·have := addM_len S.masks (maskP L)
  have h2 := h.ml
  show (addM S.masks (maskP L)).length ≤ _
  omega
 ·show (S.gens.set i _).length ≤ 64
  rw [List.length_set]; exact h.g64
 ·show addM S.masks (maskP L) = addM S.masks (maskP L')
  rw [maskP_perm hcs hp hf]
 ·have hgj' : (S.gens.set i (g0 + 1, true))[j]? = some (gj, true) := by rw [List.getElem?_set_ne (fun e => hj e.symm)]; exact hgj
  refine (v5 j gj hj hgj').trans ((v3 j gj hj hgj').trans ((v2 j gj hj hgj').trans rfl))
theorem spawn_at {o : Lab} {w : World} (hD : DeAt w) {b : Nat} {p : Ptrs} {S : SM} (h : StoreP o w b p S) (hDo : o 9 = none) {t : Nat} (hG : GS S t) (ht : t ≤ 10000) (hfree : S.free ≠ [])
  {L : List Part} {a : Option Addr} {c : Nat} (hs : SlIs w a L.length 6 (L.flatMap Part.cells)) (hLb : ∀ k f, a = some ⟨k, f, none⟩ → o k = none) (hn16 : L.length ≤ 64) (hf : ∀ q ∈ L, FitsP S.cs q) (hnt : NoTwice L) :
  Meets Tryz.prog 10 #[ptrV b, .slice a L.length c] w fun v w' => ∃ (i : Nat) (g0 : Int) (L' : List Part) (S' : SM), S.free.getLast? = some i ∧ S.gens[i]? = some (g0, false) ∧ v = .tuple #[entV i (g0 + 1), .nilIface] ∧ L'.Perm L ∧ L'.Pairwise (fun x y => x.comp ≤ y.comp) ∧
   GS S' (t + 1) ∧ Born S S' L' i (g0 + 1) ∧ Turned o w b S' w' := by
 have hlen : 0 < S.free.length := List.length_pos_iff.2 hfree
 obtain ⟨K, hK⟩ : ∃ K, K + 1 = S.free.length := ⟨S.free.length - 1, by omega⟩
 have hKl : K < S.free.length := by omega
 obtain ⟨g0, hg⟩ := (hG.fr.2 _).1 (List.getElem_mem hKl)
 obtain ⟨hlt, hge⟩ := List.getElem?_eq_some_iff.1 hg
 have hb := hG.gen _ _ hg
 have hml := hG.ml
 refine (sSpawn_spec hD h hDo hK (i := S.free[K]) rfl hlt (by rw [hge]; simp at hb ⊢; omega) (by rw [← hG.wf.gs]; exact hlt) (by omega) hG.bnd hs hLb hn16 hf hnt).mono ?_
 rintro v w' ⟨rfl, L', h1, h2, h3⟩
 have hg' : (S.gens[S.free[K]]).1 = g0 := by rw [hge]
 rw [hg'] at h3
 obtain ⟨k1, k2⟩ := hG.spawn h.tle h.good.1 hK rfl hg hf hnt h1 h2
 refine ⟨S.free[K], g0, L', _, ?_, hg, by rw [hg'], h1, h2, k1, k2, h3⟩
 rw [List.getLast?_eq_getElem?, show S.free.length - 1 = K by omega, List.getElem?_eq_getElem hKl]
end
section
theorem filter_one {L : List Part} (hnt : NoTwice L) (c : Int) : (L.filter fun q => decide (q.comp = c)).length ≤ 1 := by
 have h1 : ((L.filter fun q => decide (q.comp = c)).map (·.comp)).Nodup := List.Nodup.sublist (List.Sublist.map _ List.filter_sublist) hnt
 have := h1.length_le_of_subset (l₂ := [c]) (fun x hx => by
  obtain ⟨q, hq, rfl⟩ := List.mem_map.1 hx
  have := (List.mem_filter.1 hq).2
  simpa using this)
 simpa using this
theorem pushC_perm {L L' : List Part} (hp : L.Perm L') (hnt : NoTwice L) (T : TabM) : pushC T L = pushC T L' := by
 unfold pushC
 congr 1
 funext c
 congr 1
 have h1 := filter_one hnt (c : Int)
 have h2 := hp.filter fun q : Part => decide (q.comp = (c : Int))
 generalize L.filter (fun q : Part => decide (q.comp = (c : Int))) = a at *
 generalize L'.filter (fun q : Part => decide (q.comp = (c : Int))) = a' at *
 match a, h1 with
 | [], _ => exact (List.nil_perm.1 h2).symm
 | [x], _ => exact (List.singleton_perm.1 h2).symm ▸ rfl
theorem enterS_perm {S : SM} {n i : Nat} {g : Int} {L L' : List Part} (hn : n < S.tabs.length) (hp : L.Perm L') (hnt : NoTwice L) : enterS S n i g L hn = enterS S n i g L' hn := by
 unfold enterS
 rw [pushC_perm hp hnt]
structure Went (S S' : SM) (L' : List Part) (i : Nat) : Prop where
 gens : S'.gens = S.gens
 cs : S'.cs = S.cs
 masks : S'.masks = addM S.masks (maskP L')
 tabs : S'.tabs.length = S'.masks.length
 free : S'.free = S.free
 parts : partsOf S' i = L'
 others : ∀ j gj, j ≠ i → S.gens[j]? = some (gj, true) → partsOf S' j = partsOf S j
theorem layA_len {S : SM} (h : S.tabs.length ≤ S.masks.length) : (layA S).tabs.length = S.masks.length := by
 simp [layA, layS]; omega
theorem move_at {o : Lab} {w : World} (hD : DeAt w) {b : Nat} {p : Ptrs} {S : SM} {m' : Nat} (h : StoreP o w b p { S with masks := addM S.masks m' }) (hDo : o 9 = none) {t : Nat} (hG : GS S t) (ht0 : S.tabs.length ≤ S.masks.length) (ht : t ≤ 10000)
  {i : Nat} {g : Int} (hg : S.gens[i]? = some (g, true)) {bc : Nat} (hbc : bc < w.heap.size) (hbo : o bc = none) {f : FuncId} {caps : Array Value} {L2 L' : List Part} (hT : Turns w bc f caps (partsOf S i) L2) (hp : L2.Perm L') (hLc : L'.map (·.comp) = (listF m').map (fun c : Nat => (c : Int))) (hm' : maskP L' = m') (hf : ∀ q ∈ L', FitsP S.cs q) :
  Meets Tryz.prog 59 #[ptrV b, entV i g, natV ((addM S.masks m').idxOf m'), .func (.func f) #[] caps] w fun v w' => v = .nilIface ∧ ∃ S', GS S' (t + 1) ∧ Went S S' L' i ∧ Turned o w b S' w' := by
 obtain ⟨w2, v2⟩ := hG.wf.masks ht0 m'
 obtain ⟨w3, v3⟩ := w2.lay ((addM S.masks m').length - S.tabs.length)
 have w3 : WF (layA { S with masks := addM S.masks m' }) := w3
 have hg3 : (layA { S with masks := addM S.masks m' }).gens[i]? = some (g, true) := hg
 have hp3 : partsOf (layA { S with masks := addM S.masks m' }) i = partsOf S i := (v3 i g (fun h => h) hg).trans (v2 i g (fun h => h) hg)
 have ht1 : ({ S with masks := addM S.masks m' } : SM).tabs.length ≤ ({ S with masks := addM S.masks m' } : SM).masks.length := h.tle
 have hlen2 := layA_len ht1
 obtain ⟨n, r, hs, hn, hr, hri, m, gm, hl, hm, hsm⟩ := w3.stand hg3 (fun h => h)
 obtain ⟨w4, v4⟩ := WFe.leave w3 hs hn hr hri hl hm hsm
 have hlen3 : (leaveS (layA { S with masks := addM S.masks m' }) n r m hn).tabs.length = (addM S.masks m').length := by
  show (List.set _ _ _).length = _
  rw [List.length_set]; exact hlen2
 have hnd : (addM S.masks m').idxOf m' < (leaveS (layA { S with masks := addM S.masks m' }) n r m hn).tabs.length := by rw [hlen3]; exact idx_addM_lt _ _
 have hLc' : L'.map (·.comp) = (compsM (leaveS (layA { S with masks := addM S.masks m' }) n r m hn).masks ((addM S.masks m').idxOf m')).map (fun c : Nat => (c : Int)) := by
  show _ = (compsM (addM S.masks m') _).map _
  unfold compsM
  rw [idx_addM]
  exact hLc
 obtain ⟨w5, v5, v6⟩ := WFe.enter w4 hg3 hnd hLc'
 have hL'l : L'.length ≤ 32 := by
  have := congrArg List.length hLc
  simp only [List.length_map] at this
  have := listF_len m'
  omega
 have hnt' : NoTwice L' := by
  unfold NoTwice
  rw [hLc]
  unfold List.Nodup
  rw [List.pairwise_map]
  exact (listF_nodup _).imp (fun h e => h (by omega))
 have hnt2 : NoTwice L2 := (List.Perm.nodup_iff (hp.map _)).2 hnt'
 have hrl := w3.rows_le (List.getElem?_eq_getElem hn)
 have hsp : (layA { S with masks := addM S.masks m' }).spots.length = S.spots.length := rfl
 have hgs := hG.wf.gs
 have hg64 := hG.g64
 have hpe := partsOf_eq hs (List.getElem?_eq_getElem hn)
 have hT' : Turns w bc f caps ((compsM ({ S with masks := addM S.masks m' } : SM).masks n).map (partAt (layA { S with masks := addM S.masks m' }).tabs[n] r)) L2 := by
  have e : (compsM ({ S with masks := addM S.masks m' } : SM).masks n).map (partAt (layA { S with masks := addM S.masks m' }).tabs[n] r) = partsOf S i := by
   rw [← hp3, hpe]; rfl
  rw [e]; exact hT
 have h4r := w4.rows_le (List.getElem?_eq_getElem hnd)
 have hsp4 : (leaveS (layA { S with masks := addM S.masks m' }) n r m hn).spots.length = S.spots.length := by
  show (List.set _ _ _).length = _
  rw [List.length_set]; rfl
 refine (sMove_spec hD h hDo (g := g) (gm := gm) hs hn hr (fun c hc => w3.cols n _ c (List.getElem?_eq_getElem hn) hc) hl hm (by omega) hbc hbo hT' hnd (by rw [hp.length_eq]; omega) (fun q hq => hf q (hp.mem_iff.1 hq)) ?_ ?_ (by omega)).mono ?_
 ·intro q hq
  have hq := hp.mem_iff.1 hq
  have hm2 : q.comp ∈ (listF m').map (fun c : Nat => (c : Int)) := hLc ▸ List.mem_map.2 ⟨q, hq, rfl⟩
  obtain ⟨c, hc, e⟩ := List.mem_map.1 hm2
  refine ⟨c, e.symm, ?_⟩
  show c ∈ compsM (addM S.masks m') _
  unfold compsM
  rw [idx_addM]; exact hc
 ·intro c hc
  rw [w4.cols _ _ c (List.getElem?_eq_getElem hnd) hc, hp.length_eq]
  omega
 ·rintro v w' ⟨rfl, h'⟩
  rw [enterS_perm hnd hp hnt2] at h'
  have hgens : (enterS (leaveS (layA { S with masks := addM S.masks m' }) n r m hn) ((addM S.masks m').idxOf m') i g L' hnd).gens = S.gens := rfl
  refine ⟨rfl, _, ⟨w5, hG.fr, fun j x hx => ?_, ?_, hg64⟩, ⟨rfl, rfl, ?_, ?_, rfl, v5, fun j gj hj hgj => ?_⟩, h'⟩
  ·have := hG.gen j x hx
   push_cast; omega
  ·have := addM_len S.masks m'
   have h2 := hG.ml
   show (addM S.masks m').length ≤ _
   omega
  ·rw [hm']; rfl
  ·show (List.set _ _ _).length = _
   rw [List.length_set]; exact hlen3
  ·exact (v6 j gj hj hgj).trans ((v4 j gj hj hgj).trans ((v3 j gj (fun h => h) hgj).trans (v2 j gj (fun h => h) hgj)))
end
section
attribute [local irreducible] kO kB kStr kInt kN kG kIf kfld kld kldN kst knew kmap kbld kbldS kext kcnv klenStr klen kcap kprt kprtN kbool kint kstr keq kun ksl kix kiv kta kmk kmm ksem ksemU kextf kcallV kcallM kcall kL
theorem comps_mask {cs : List Comp} (hcs : cs.length ≤ 16) {P : List Part} (hf : ∀ q ∈ P, FitsP cs q) {m : Nat} (hm : m < 2 ^ cs.length) (hc : P.map (·.comp) = (listF m).map (fun c : Nat => (c : Int))) : maskP P = m := by
 apply Nat.eq_of_testBit_eq
 intro c
 rw [Bool.eq_iff_iff, maskP_bit cs hcs P hf c]
 constructor
 ·rintro ⟨q, hq, e⟩
  have h1 : q.comp ∈ (listF m).map (fun c : Nat => (c : Int)) := hc ▸ List.mem_map.2 ⟨q, hq, rfl⟩
  obtain ⟨d, hd, e2⟩ := List.mem_map.1 h1
  have : d = c := by omega
  subst this
  exact (listF_mem.1 hd).2
 ·intro hb
  have hcl : c < cs.length := by
   rcases Nat.lt_or_ge c cs.length with h | h
   ·exact h
   ·have : m < 2 ^ c := Nat.lt_of_lt_of_le hm (Nat.pow_le_pow_right (by omega) h)
    rw [Nat.testBit_lt_two_pow this] at hb; cases hb
  have h1 : (c : Int) ∈ P.map (·.comp) := hc ▸ List.mem_map.2 ⟨c, listF_mem.2 ⟨by omega, hb⟩, rfl⟩
  obtain ⟨q, hq, e⟩ := List.mem_map.1 h1
  exact ⟨q, hq, e⟩
theorem parts_ok {o : Lab} {w : World} {b : Nat} {p : Ptrs} {S : SM} (h : StoreP o w b p S) {t : Nat} (hG : GS S t) {i : Nat} {g : Int} (hg : S.gens[i]? = some (g, true)) :
  ∃ n r, S.spots[i]? = some (n, r) ∧ ∃ hn : n < S.tabs.length, ∃ hnm : n < S.masks.length, (∀ c ∈ compsM S.masks n, r < (S.tabs[n].col c).length) ∧ partsOf S i = (compsM S.masks n).map (partAt S.tabs[n] r) ∧ compsM S.masks n = listF S.masks[n] ∧
   (partsOf S i).map (·.comp) = (listF S.masks[n]).map (fun c : Nat => (c : Int)) ∧ (∀ q ∈ partsOf S i, FitsP S.cs q) ∧ maskP (partsOf S i) = S.masks[n] ∧ S.masks[n] < 2 ^ S.cs.length ∧ ∀ c ∈ compsM S.masks n, (partAt S.tabs[n] r c).comp = (c : Int) := by
 obtain ⟨n, r, T, h1, h2, h3⟩ := hG.wf.live i g hg (fun h => h)
 obtain ⟨hn, e⟩ := List.getElem?_eq_some_iff.1 h2
 subst e
 have hr := (List.getElem?_eq_some_iff.1 h3).1
 have hnm : n < S.masks.length := Nat.lt_of_lt_of_le hn h.tle
 have hcol : ∀ c ∈ compsM S.masks n, r < (S.tabs[n].col c).length := fun c hc => by rw [hG.wf.cols n _ c h2 hc]; exact hr
 have hpe := partsOf_eq h1 h2
 have hce : compsM S.masks n = listF S.masks[n] := by unfold compsM; rw [List.getElem?_eq_getElem hnm]
 have hmk := mk_of h _ (List.getElem_mem hnm)
 have hcomp : ∀ c ∈ compsM S.masks n, (partAt S.tabs[n] r c).comp = (c : Int) ∧ (partAt S.tabs[n] r c).clean (wdF S.cs c) := fun c hc => by
  obtain ⟨_, _, _, _, _, h6, _⟩ := (h.tab n hn).col hc
  have := h6 _ (List.getElem_mem (hcol c hc))
  simp only [partAt, List.getElem?_eq_getElem (hcol c hc), Option.getD_some]
  exact this
 have hmap : (partsOf S i).map (·.comp) = (listF S.masks[n]).map (fun c : Nat => (c : Int)) := by
  rw [hpe, List.map_map, hce]
  exact List.map_congr_left fun c hc => (hcomp c (hce ▸ hc)).1
 have hfit : ∀ q ∈ partsOf S i, FitsP S.cs q := fun q hq => by
  rw [hpe] at hq
  obtain ⟨c, hc, rfl⟩ := List.mem_map.1 hq
  obtain ⟨e1, e2⟩ := hcomp c hc
  exact ⟨c, e1, listF_lt hmk (hce ▸ hc), e2⟩
 exact ⟨n, r, h1, hn, hnm, hcol, hpe, hce, hmap, hfit, comps_mask h.good.1 hfit hmk hmap, hmk, fun c hc => (hcomp c hc).1⟩
theorem seg_nth {l : List Value} {o n j : Nat} {cs : List Value} {v : Value} (h : segL l o n = some cs) (hj : cs[j]? = some v) : l[o + j]? = some v := by
 obtain ⟨h1, h2⟩ := segL_spec _ _ _ _ h
 rw [← h2] at hj
 have hjn : j < n := by
  rcases Nat.lt_or_ge j n with h | h
  ·exact h
  ·rw [List.getElem?_eq_none (by simp; omega)] at hj; cases hj
 rw [List.getElem?_take_of_lt hjn, List.getElem?_drop] at hj
 exact hj
theorem eraseIdx_filter {α : Type} (p : α → Bool) : ∀ (l : List α) (k : Nat) (hk : k < l.length), p l[k] = false → (∀ j (hj : j < l.length), j ≠ k → p l[j] = true) → l.eraseIdx k = l.filter p
 | x :: l, 0, _, h1, h2 => by
  have h1 : p x = false := h1
  rw [List.eraseIdx_zero, List.tail_cons, List.filter_cons_of_neg (by simp [h1])]
  symm
  rw [List.filter_eq_self]
  intro a ha
  obtain ⟨j, hj, rfl⟩ := List.mem_iff_getElem.1 ha
  exact h2 (j + 1) (by simp; omega) (by omega)
 | x :: l, k + 1, hk, h1, h2 => by
  have hx : p x = true := h2 0 (by simp) (by omega)
  rw [List.eraseIdx_cons_succ, List.filter_cons_of_pos hx]
  congr 1
  exact eraseIdx_filter p l k (by simpa using hk) h1 fun j hj hjk => h2 (j + 1) (by simp; omega) (by omega)
theorem listF_without {m c : Nat} (hc : c < 32) : listF (andN m (2 ^ c)) = (listF m).filter fun x => decide (x ≠ c) := by
 have e : 4294967295 - 2 ^ c = 2 ^ 32 - (2 ^ c + 1) := by omega
 have hb : 2 ^ c < 2 ^ 32 := Nat.pow_lt_pow_right (by omega) hc
 unfold listF
 rw [List.filter_filter]
 apply List.filter_congr
 intro x hx
 have hx : x < 32 := by simpa using hx
 rw [andN, Nat.testBit_and, e, Nat.testBit_two_pow_sub_succ (by omega), Nat.testBit_two_pow]
 by_cases h : x = c
 ·subst h; simp
 ·have : ¬ c = x := fun e => h e.symm
  simp [h, hx, this]
theorem without_turns {w : World} {bc : Nat} {c : Int} (hb : blk w bc = some (.cells #[.int .i64 c] 3)) {L : List Part} {k : Nat} (hk : k < L.length) (hkc : (L[k]).comp = c) (hone : ∀ j (hj : j < L.length), j ≠ k → (L[j]).comp ≠ c) (hlen : L.length ≤ 1000000) :
  Turns w bc 62 #[.pointer (some ⟨bc, 0, none⟩)] L (L.eraseIdx k) := by
 intro w1 sv hsz hbc hv hO
 have hlb := lt_of_blk hb
 show Meets Tryz.prog 62 #[sv, .pointer (some ⟨bc, 0, none⟩)] w1 _
 refine f62_ok ?_
 unfold f62
 refine kcall_of (deleteP_spec hO (bc := bc) (c := c) (hbc.trans hb) (fun e => by have := hv _ e; omega) hk hkc hone hlen) ?_
 rintro v w2 ⟨h1, h2, h3⟩
 exact ⟨h1, h2, fun k hk => .inl (h3 k hk)⟩
theorem remove_at {o : Lab} {w : World} (hD : DeAt w) {b : Nat} {p : Ptrs} {S : SM} (h : StoreP o w b p S) (hDo : o 9 = none) {t : Nat} (hG : GS S t) (ht : t ≤ 10000) {i : Nat} {g : Int} (hg : S.gens[i]? = some (g, true)) {c : Nat} {q : Part} (hq : q ∈ partsOf S i) (hqc : q.comp = (c : Int)) :
  Meets Tryz.prog 14 #[ptrV b, entV i g, .int .i64 c] w fun v w' => v = .tuple #[.agg q.cells.toArray, .nilIface] ∧ ∃ S', GS S' (t + 1) ∧ Went S S' ((partsOf S i).filter fun x => decide (x.comp ≠ (c : Int))) i ∧ Turned o w b S' w' := by
 obtain ⟨n, r, hsp, hn, hnm, hcol, hpe, hce, hmap, hfit, hmk, hmlt, hpc⟩ := parts_ok h hG hg
 have hcs := h.good.1
 have hp16 : 2 ^ S.cs.length ≤ 2 ^ 16 := Nat.pow_le_pow_right (by omega) hcs
 have hml := hG.ml
 have hgl := (List.getElem?_eq_some_iff.1 hg).1
 have hgs := hG.wf.gs
 have hcm : c ∈ compsM S.masks n := by
  rw [hpe] at hq
  obtain ⟨d, hd, rfl⟩ := List.mem_map.1 hq
  have := hpc d hd
  have : d = c := by omega
  subst this; exact hd
 have hqe : q = (S.tabs[n].col c)[r]'(hcol c hcm) := by
  rw [hpe] at hq
  obtain ⟨d, hd, rfl⟩ := List.mem_map.1 hq
  have := hpc d hd
  have : d = c := by omega
  subst this
  simp only [partAt, List.getElem?_eq_getElem (hcol d hcm), Option.getD_some]
 have hc16 : c < S.cs.length := listF_lt hmlt (hce ▸ hcm)
 have hc32 : c < 32 := by omega
 obtain ⟨k, hk, hkc⟩ : ∃ k, ∃ hk : k < (partsOf S i).length, ((partsOf S i)[k]).comp = (c : Int) := by
  obtain ⟨k, hk, e⟩ := List.mem_iff_getElem.1 hq
  exact ⟨k, hk, by rw [e]; exact hqc⟩
 have hnd : ((partsOf S i).map (·.comp)).Nodup := by
  rw [hmap]
  unfold List.Nodup
  rw [List.pairwise_map]
  exact (listF_nodup _).imp (fun h e => h (by omega))
 have hone : ∀ j (hj : j < (partsOf S i).length), j ≠ k → ((partsOf S i)[j]).comp ≠ (c : Int) := fun j hj hjk e => by
  have : ((partsOf S i).map (·.comp))[j]'(by simpa using hj) = ((partsOf S i).map (·.comp))[k]'(by simpa using hk) := by
   rw [List.getElem_map, List.getElem_map, e, hkc]
  exact hjk ((List.getElem_inj hnd).1 this)
 have hL2 : (partsOf S i).eraseIdx k = (partsOf S i).filter fun x => decide (x.comp ≠ (c : Int)) := eraseIdx_filter (fun x => decide (x.comp ≠ (c : Int))) _ k hk (by simp [hkc]) (fun j hj hjk => by simpa using hone j hj hjk)
 have hlen : (partsOf S i).length ≤ 32 := by
  have := congrArg List.length hmap
  simp only [List.length_map] at this
  have := listF_len S.masks[n]
  omega
 have hLc : ((partsOf S i).filter fun x => decide (x.comp ≠ (c : Int))).map (·.comp) = (listF (andN S.masks[n] (2 ^ c))).map (fun c : Nat => (c : Int)) := by
  rw [listF_without hc32]
  have e1 : ((partsOf S i).filter fun x => decide (x.comp ≠ (c : Int))).map (·.comp) = ((partsOf S i).map (·.comp)).filter fun x => decide (x ≠ (c : Int)) := by
   rw [List.filter_map]; rfl
  rw [e1, hmap, List.filter_map]
  congr 1
  apply List.filter_congr
  intro x _
  simp
  omega
 have hfit' : ∀ x ∈ (partsOf S i).filter (fun x => decide (x.comp ≠ (c : Int))), FitsP S.cs x := fun x hx => hfit x (List.mem_filter.1 hx).1
 have hm'lt : andN S.masks[n] (2 ^ c) < 2 ^ S.cs.length := by
  have : andN S.masks[n] (2 ^ c) ≤ S.masks[n] := Nat.and_le_left
  omega
 have hm' := comps_mask hcs hfit' hm'lt hLc
 rw [ptrV]
 refine f14_ok ?_
 unfold f14
 refine knew_of fun w2 hm2 hs2 hb2 => ?_
 have hb2 : blk w2 w.heap.size = some (.cells #[.int .i64 i, .int .i64 g] 37) := hb2
 refine knew_of fun w4 hm4 hs4 hb4 => ?_
 have hb4 : blk w4 w2.heap.size = some (.cells #[.int .i64 c] 3) := hb4
 refine knew_of fun w6 hm6 hs6 hb6 => ?_
 have he6 := hm6.get (hm4.get hb2 (fun h => h)) (fun h => h)
 have hc6 := hm6.get hb4 (fun h => h)
 have m6 : Same w w6 := (hm2.trans hm4).trans hm6
 have hP6 := h.cut m6
 have hcutn : ∀ k, w.heap.size ≤ k → cutL o w.heap.size k = none := fun k hk => cutL_none hk
 have hDo0 : cutL o w.heap.size 9 = none := by
  unfold cutL; split
  ·exact hDo
  ·rfl
 refine kldN_at he6 rfl (by omega) ?_
 refine kld_at hc6 rfl ?_
 refine kcall_of (sGet_spec hP6 hg hsp hn hcm (hcol c hcm)) ?_
 rintro v w10 ⟨rfl, h10⟩
 rw [← hqe]
 refine kext_at rfl ?_
 refine kext_at rfl ?_
 refine knew_of fun w14 h14 hs14 hb14 => ?_
 refine kst_of (vs := q.cells) hb14 rfl rfl rfl (by simp) (by simp [Part.cells]) fun w15 h15 hs15 hb15 => ?_
 have hb15 : blk w15 w10.heap.size = some (.cells q.cells.toArray 47) := hb15
 rw [keq_nil_nil' ifErr]
 refine kB_at ?_
 refine kIf_F rfl ?_
 unfold f14_0
 have hsz10 := h10.size
 have m15 : Same w6 w15.drew := (h10.trans h14).trans' (h15.drew.mono fun k _ e => .inr (by omega))
 have hq15 : blk w15.drew w10.heap.size = some (.cells q.cells.toArray 47) := hb15
 have hs15 : w15.drew.heap.size = w10.heap.size + 1 := by show w15.heap.size = _; omega
 generalize w15.drew = wa at *
 have hPa := hP6.same m15
 have hba := hPa.here
 obtain ⟨bs, csc, arr, tt, es, hbs, s1, s2, s3⟩ := hPa.spots.viewF (F := spotC) (sz := 2) (fun _ => rfl) (by omega) (show 0 < S.spots.length by omega)
 rw [es] at hba
 have hea := m15.get he6 (fun h => h)
 have hca := m15.get hc6 (fun h => h)
 have hra := m15.get hb6 (fun h => h)
 obtain ⟨hil, hsi⟩ := List.getElem?_eq_some_iff.1 hsp
 have hsii := s3 i hil
 rw [hsi] at hsii
 refine kN_at ?_
 refine kfld_of ?_
 refine kld_at hba rfl ?_
 refine kG_of rfl ?_
 refine kN_at ?_
 refine kfld_of ?_
 refine kld_at hba rfl ?_
 refine kG_of rfl ?_
 refine kfld_of ?_
 refine kld_at hea rfl ?_
 refine kG_of rfl ?_
 rw [kix_slice]
 refine kG_of (by omega) ?_
 rw [add_mk, Nat.zero_add, Int.toNat_natCast]
 refine kfld_of ?_
 refine kld_of (v := .int .i64 n) hbs (by have := seg_nth hsii (j := 0) rfl; simpa [natV] using this) ?_
 refine kG_of rfl ?_
 refine kld_at hca rfl ?_
 refine kG_of rfl ?_
 refine kcall_of (withoutAt_spec hPa.atlas n hnm c hc16 (by omega)) ?_
 rintro v w32 ⟨rfl, o2, hl2, hA2, hm32⟩
 have hP32 := hPa.setAtlas (by omega) hl2 hm32 hA2
 refine kext_at rfl ?_
 refine kext_at rfl ?_
 rw [keq_nil_nil' ifErr]
 refine kB_at ?_
 refine kIf_F rfl ?_
 unfold f14_1
 have hsz2 := hm2.size
 have hsz32 := hm32.size
 have hu0 : ∀ k, w.heap.size ≤ k → k < wa.heap.size → o2 k = none := fun k h1 h2 => by rw [hl2 k h2]; exact hcutn k h1
 have hFu : ∀ {T : Tag → Prop} k, w.heap.size ≤ k → ¬ FP (cutL o w.heap.size) T k := fun k hk ⟨t, e1, _⟩ => by rw [hcutn k hk] at e1; cases e1
 have md : Same w32 w32.drew := (Mod.refl (fun _ => False) _).drew
 have hq32 : blk w32.drew w10.heap.size = _ := hm32.get hq15 (hFu _ (by omega))
 have he32 : blk w32.drew w.heap.size = _ := hm32.get hea (hFu _ (by omega))
 have hc32' : blk w32.drew w2.heap.size = _ := hm32.get hca (hFu _ (by omega))
 have hr32 : blk w32.drew w4.heap.size = _ := hm32.get hra (hFu _ (by omega))
 have hPc := hP32.frame md (fun _ _ _ h => h) (LabEq.cut w32 o2)
 have hu2 : ∀ k, w.heap.size ≤ k → k < wa.heap.size → cutL o2 w32.heap.size k = none := fun k h1 h2 => by
  unfold cutL; rw [if_pos (by omega)]; exact hu0 k h1 h2
 have hDlt := hD.lt
 have hDc : cutL o2 w32.heap.size 9 = none := by
  have := m6.size
  have := m15.size
  unfold cutL
  rw [if_pos (by omega), hl2 _ (by omega)]
  exact hDo0
 have hD32 : DeAt w32 := ((hD.same m6).same m15).mod hm32 fun ⟨t, e1, _⟩ => by rw [hDo0] at e1; cases e1
 have hD32 : DeAt w32.drew := hD32.same md
 have hm32c := hl2.trans (LabEq.cut w32 o2) hm32.size
 have hs32 : w32.drew.heap.size = w32.heap.size := rfl
 generalize hocd : cutL o2 w32.heap.size = oc at *
 generalize w32.drew = wb at *
 refine kldN_at hq32 rfl (by omega) ?_
 refine kG_of rfl ?_
 refine kldN_at he32 rfl (by omega) ?_
 refine kG_of rfl ?_
 refine kcall_of (move_at hD32 hPc hDc hG h.tle ht hg (bc := w2.heap.size) (by omega) (hu2 _ (by omega) (by omega)) (without_turns hc32' hk hkc hone (by omega)) (by rw [hL2]) hLc hm' hfit') ?_
 rintro v w43 ⟨rfl, S', hG', hW, hTu⟩
 obtain ⟨o5, p5, hl5, hP5, hm5, hc5⟩ := id hTu
 have hF5 : ∀ {T : Tag → Prop} k, w.heap.size ≤ k → k < wa.heap.size → ¬ FP oc T k := fun k h1 h2 ⟨t, e1, _⟩ => by rw [hu2 k h1 h2] at e1; cases e1
 have hq43 := hm5.get hq32 (hF5 _ (by omega) (by omega))
 have hr43 := hm5.get hr32 (hF5 _ (by omega) (by have := m15.size; omega))
 refine kG_of (kldN_at hq43 rfl (by omega) ⟨rfl, rfl⟩) ?_
 refine kst_of (vs := q.cells) hr43 rfl rfl rfl (by simp) (by simp [Part.cells]) fun w44 h44 hs44 hb44 => ?_
 have hb44 : blk w44 w4.heap.size = some (.cells q.cells.toArray 47) := hb44
 refine kldN_at hb44 rfl (by omega) ?_
 refine ⟨rfl, S', hG', hW, ?_⟩
 refine Turned.wrap m6 ?_ (h44.mono fun k _ e => by subst e; omega)
 refine Turned.seq (o1 := cutL o w.heap.size) (w1 := w6) (LabEq.refl _ _) (Mod.refl _ _) m15 ?_
 exact Turned.seq (o1 := oc) (w1 := w32) hm32c (hm32.mono fun k _ hk => FP.mono (fun _ _ => trivial) hk) md hTu
end
section
attribute [local irreducible] kO kB kStr kInt kN kG kIf kfld kld kldN kst knew kmap kbld kbldS kext kcnv klenStr klen kcap kprt kprtN kbool kint kstr keq kun ksl kix kiv kta kmk kmm ksem ksemU kextf kcallV kcallM kcall kL
end
section
attribute [local irreducible] kO kB kStr kInt kN kG kIf kfld kld kldN kst knew kmap kbld kbldS kext kcnv klenStr klen kcap kprt kprtN kbool kint kstr keq kun ksl kix kiv kta kmk kmm ksem ksemU kextf kcallV kcallM kcall kL
end
section
def Just (L : List (Int × Int)) (P : Nat → Int → Prop) : Prop := L.Nodup ∧ L.Pairwise (fun x y => x.1 ≤ y.1) ∧ ∀ e, e ∈ L ↔ ∃ (i : Nat) (g : Int), e = ((i : Int), g) ∧ P i g
end
section
def putS (S : SM) (n r c : Nat) (q : Part) (hn : n < S.tabs.length) : SM := { S with tabs := S.tabs.set n ⟨S.tabs[n].rows, updC S.tabs[n].col c ((S.tabs[n].col c).set r q)⟩ }
structure PutS (S S' : SM) (i c : Nat) (q : Part) : Prop where
 gens : S'.gens = S.gens
 cs : S'.cs = S.cs
 masks : S'.masks = S.masks
 tabs : S'.tabs.length = S.tabs.length
 free : S'.free = S.free
 parts : partsOf S' i = (partsOf S i).map fun x => if x.comp = (c : Int) then q else x
 others : ∀ j gj, j ≠ i → S.gens[j]? = some (gj, true) → partsOf S' j = partsOf S j
theorem putS_tabs {S : SM} {n r c : Nat} {q : Part} (hn : n < S.tabs.length) (k : Nat) : (putS S n r c q hn).tabs[k]? = if k = n then some ⟨S.tabs[n].rows, updC S.tabs[n].col c ((S.tabs[n].col c).set r q)⟩ else S.tabs[k]? := by
 unfold putS
 rw [List.getElem?_set]
 by_cases h : n = k
 ·subst h; rw [if_pos rfl, if_pos hn, if_pos rfl]
 ·rw [if_neg h, if_neg (fun e => h e.symm)]
theorem GS.put {S : SM} {t : Nat} (h : GS S t) {i : Nat} {g : Int} (hg : S.gens[i]? = some (g, true)) {n r : Nat} (hs : S.spots[i]? = some (n, r)) (hn : n < S.tabs.length) {c : Nat} (hc : c ∈ compsM S.masks n) (hr : r < (S.tabs[n].col c).length)
  (hpc : ∀ d ∈ compsM S.masks n, (partAt S.tabs[n] r d).comp = (d : Int)) (q : Part) :
  GS (putS S n r c q hn) t ∧ PutS S (putS S n r c q hn) i c q := by
 have hTn : S.tabs[n]? = some S.tabs[n] := List.getElem?_eq_getElem hn
 have hT' := putS_tabs (r := r) (c := c) (q := q) hn
 have hsp : (putS S n r c q hn).spots = S.spots := rfl
 have hcol : ∀ d, ((updC S.tabs[n].col c ((S.tabs[n].col c).set r q)) d).length = (S.tabs[n].col d).length := fun d => by
  by_cases hd : d = c
  ·subst hd; rw [updC_same, List.length_set]
  ·rw [updC_ne _ hd]
 refine ⟨⟨⟨h.wf.gs, fun j gj hgj _ => ?_, fun n' T r' e hT hre => ?_, fun n' T d hT hd => ?_⟩, h.fr, h.gen, h.ml, h.g64⟩, ⟨rfl, rfl, rfl, by simp [putS], rfl, ?_, fun j gj hj hgj => ?_⟩⟩
 ·obtain ⟨n', r', T', h1, h2, h3⟩ := h.wf.live j gj hgj (fun h => h)
  by_cases hnn : n' = n
  ·subst hnn
   rw [hTn] at h2; cases h2
   exact ⟨n', r', _, h1, (hT' n').trans (if_pos rfl), h3⟩
  ·exact ⟨n', r', T', h1, by rw [hT', if_neg hnn]; exact h2, h3⟩
 ·rw [hT'] at hT
  by_cases hnn : n' = n
  ·subst hnn
   rw [if_pos rfl] at hT
   cases hT
   exact h.wf.rows n' _ r' e hTn hre
  ·rw [if_neg hnn] at hT
   exact h.wf.rows n' T r' e hT hre
 ·rw [hT'] at hT
  by_cases hnn : n' = n
  ·subst hnn
   rw [if_pos rfl] at hT
   cases hT
   show (updC _ _ _ d).length = _
   rw [hcol d]
   exact h.wf.cols n' _ d hTn hd
  ·rw [if_neg hnn] at hT
   exact h.wf.cols n' T d hT hd
 ·rw [partsOf_eq hs hTn, partsOf_eq (S := putS S n r c q hn) hs (by rw [hT', if_pos rfl]), List.map_map]
  refine List.map_congr_left fun d hd => ?_
  have e := hpc d hd
  show ((updC S.tabs[n].col c ((S.tabs[n].col c).set r q) d)[r]?).getD _ = if (partAt S.tabs[n] r d).comp = (c : Int) then q else partAt S.tabs[n] r d
  by_cases hdc : d = c
  ·subst hdc
   rw [if_pos e, updC_same, List.getElem?_set, if_pos rfl, if_pos hr]; rfl
  ·rw [if_neg (by omega), updC_ne _ hdc]; rfl
 ·obtain ⟨n', r', T', h1, h2, h3⟩ := h.wf.live j gj hgj (fun h => h)
  by_cases hnn : n' = n
  ·subst hnn
   rw [hTn] at h2; cases h2
   have hrr : r' ≠ r := fun e => by
    subst e
    obtain ⟨n2, r2, T2, k1, k2, k3⟩ := h.wf.live i g hg (fun h => h)
    rw [hs] at k1; cases k1
    rw [hTn] at k2; cases k2
    rw [h3] at k3
    simp at k3; omega
   rw [partsOf_eq h1 hTn, partsOf_eq (S := putS S n' r c q hn) h1 (by rw [hT', if_pos rfl])]
   refine List.map_congr_left fun d hd => ?_
   show ((updC S.tabs[n'].col c ((S.tabs[n'].col c).set r q) d)[r']?).getD _ = ((S.tabs[n'].col d)[r']?).getD _
   by_cases hdc : d = c
   ·subst hdc
    rw [updC_same, List.getElem?_set_ne (fun e => hrr e.symm)]
   ·rw [updC_ne _ hdc]
  ·rw [partsOf_eq h1 h2, partsOf_eq (S := putS S n r c q hn) h1 (by rw [hT', if_neg hnn]; exact h2)]; rfl
theorem part_at {o : Lab} {w : World} {b : Nat} {p : Ptrs} {S : SM} (h : StoreP o w b p S) {t : Nat} (hG : GS S t) {i : Nat} {g : Int} (hg : S.gens[i]? = some (g, true)) {c : Nat} {q : Part} (hq : q ∈ partsOf S i) (hqc : q.comp = (c : Int)) :
  ∃ n r, S.spots[i]? = some (n, r) ∧ ∃ hn : n < S.tabs.length, ∃ hcm : c ∈ compsM S.masks n, ∃ hr : r < (S.tabs[n].col c).length, (S.tabs[n].col c)[r] = q ∧ ∀ d ∈ compsM S.masks n, (partAt S.tabs[n] r d).comp = (d : Int) := by
 obtain ⟨n, r, hsp, hn, hnm, hcol, hpe, hce, hmap, hfit, hmk, hmlt, hpc⟩ := parts_ok h hG hg
 rw [hpe] at hq
 obtain ⟨d, hd, rfl⟩ := List.mem_map.1 hq
 have hdc : d = c := by have := hpc d hd; omega
 subst hdc
 refine ⟨n, r, hsp, hn, hd, hcol d hd, ?_, hpc⟩
 simp only [partAt, List.getElem?_eq_getElem (hcol d hd), Option.getD_some]
theorem get_at {o : Lab} {w : World} {b : Nat} {p : Ptrs} {S : SM} (h : StoreP o w b p S) {t : Nat} (hG : GS S t) {i : Nat} {g : Int} (hg : S.gens[i]? = some (g, true)) {c : Nat} {q : Part} (hq : q ∈ partsOf S i) (hqc : q.comp = (c : Int)) :
  Meets Tryz.prog 37 #[ptrV b, entV i g, .int .i64 c] w fun v w' => v = .tuple #[.agg q.cells.toArray, .nilIface] ∧ Same w w' := by
 obtain ⟨n, r, hsp, hn, hcm, hr, rfl, _⟩ := part_at h hG hg hq hqc
 exact sGet_spec h hg hsp hn hcm hr
end
section
def f43_3 (x1 x3 x18 x19 : Value) (J5 : Value → World → Prop) (Q : PQ) (w : World) : Prop :=
 kint .i64 .add x19 (.int .i64 1) fun v24 =>
 J5 v24 w
def f43_2 (x1 x3 x18 x19 : Value) (J5 : Value → World → Prop) (Q : PQ) (w : World) : Prop :=
 kldN 2 x1 w fun v21 =>
 kcall Tryz.prog 100 #[x3, v21, x19] w fun v22 w23 =>
 f43_3 x1 x3 x18 x19 J5 Q w23
def f43_8 (x1 x3 x37 x38 : Value) (J12 : Value → World → Prop) (Q : PQ) (w : World) : Prop :=
 kint .i64 .add x38 (.int .i64 1) fun v43 =>
 J12 v43 w
def f43_7 (x1 x3 x37 x38 : Value) (J12 : Value → World → Prop) (Q : PQ) (w : World) : Prop :=
 kldN 2 x1 w fun v40 =>
 kcall Tryz.prog 101 #[x3, v40, x38] w fun v41 w42 =>
 f43_8 x1 x3 x37 x38 J12 Q w42
def f43_9 (x3 : Value) (Q : PQ) (w : World) : Prop :=
 kN x3 <|
 kfld 0 x3 fun v44 =>
 kld v44 w fun v45 =>
 kcall Tryz.prog 102 #[v45] w fun v46 w47 =>
 Q v46 w47
def f43_6 (x38 x1 x3 x37 : Value) (J12 : Value → World → Prop) (Q : PQ) (w : World) : Prop :=
 kint .i64 .lss x38 x37 fun v39 =>
 kB v39 fun b48 => kIf b48
 (f43_7 x1 x3 x37 x38 J12 Q w)
 (f43_9 x3 Q w)
def f43_5 (x1 x3 : Value) (Q : PQ) (w : World) : Prop :=
 kfld 1 x1 fun v35 =>
 kld v35 w fun v36 =>
 klen v36 fun v37 =>
 kL fun (I : Value → World → Prop) (μ : Value → World → Nat) => I (.int .i64 0) w ∧ ∀ (x38 : Value) (w1 : World), I x38 w1 →
 f43_6 x38 x1 x3 v37 (fun y38 w2 => I y38 w2 ∧ μ y38 w2 < μ x38 w1) Q w1
def f43_4 (x1 x3 : Value) (Q : PQ) (w : World) : Prop :=
 kfld 1 x1 fun v25 =>
 kld v25 w fun v26 =>
 klen v26 fun v27 =>
 kint .i64 .gtr v27 (.int .i64 8) fun v29 =>
 kB v29 fun b49 => kIf b49
 (kld (.pointer (some ⟨6, 0, none⟩)) w fun v30 =>
 kbldS [(.string ⟨#[]⟩)] 1 [(0, 1, (.string ⟨#[114, 101, 115, 111, 117, 114, 99, 101, 115]⟩))] 9 w fun v31 w32 =>
 kcall Tryz.prog 99 #[x3, v30, v31] w32 fun v33 w34 =>
 f43_5 x1 x3 Q w34)
 (f43_5 x1 x3 Q w)
def f43_1 (x19 x1 x3 x18 : Value) (J5 : Value → World → Prop) (Q : PQ) (w : World) : Prop :=
 kint .i64 .lss x19 x18 fun v20 =>
 kB v20 fun b50 => kIf b50
 (f43_2 x1 x3 x18 x19 J5 Q w)
 (f43_4 x1 x3 Q w)
def f43_0 (x1 x3 : Value) (Q : PQ) (w : World) : Prop :=
 kfld 0 x1 fun v16 =>
 kld v16 w fun v17 =>
 klen v17 fun v18 =>
 kL fun (I : Value → World → Prop) (μ : Value → World → Nat) => I (.int .i64 0) w ∧ ∀ (x19 : Value) (w1 : World), I x19 w1 →
 f43_1 x19 x1 x3 v18 (fun y19 w2 => I y19 w2 ∧ μ y19 w2 < μ x19 w1) Q w1
def f43 (x0 : Value) (Q : PQ) (w : World) : Prop :=
 knew (Value.cells x0) 33 w fun v1 w2 =>
 kbld [.slice none 0 0] [] fun v3 =>
 knew (Value.cells v3) 180 w2 fun v4 w5 =>
 kfld 0 v1 fun v6 =>
 kld v6 w5 fun v7 =>
 klen v7 fun v8 =>
 kint .i64 .gtr v8 (.int .i64 16) fun v10 =>
 kB v10 fun b51 => kIf b51
 (kld (.pointer (some ⟨6, 0, none⟩)) w5 fun v11 =>
 kbldS [(.string ⟨#[]⟩)] 1 [(0, 1, (.string ⟨#[99, 111, 109, 112, 111, 110, 101, 110, 116, 115]⟩))] 9 w5 fun v12 w13 =>
 kcall Tryz.prog 99 #[v4, v11, v12] w13 fun v14 w15 =>
 f43_0 v1 v4 Q w15)
 (f43_0 v1 v4 Q w5)
theorem f43_ok {x0 : Value} {Q : PQ} {w : World} (h : f43 x0 Q w) : Meets Tryz.prog 43 #[x0] w Q :=
 sound' (c := Tryz.f43.body.get rfl) [(5, [19]), (12, [38])] Tryz.func43 rfl rfl (args := [x0]) rfl (by kernel_rfl) h
def f100_1 (x0 x6 x9 x35 : Value) (Q : PQ) (w : World) : Prop :=
 kB x35 fun b47 => kIf b47
 (kld (.pointer (some ⟨4, 0, none⟩)) w fun v32 =>
 kbldS [(.string ⟨#[]⟩)] 3 [(0, 1, (.string ⟨#[99, 111, 109, 112, 111, 110, 101, 110, 116, 115]⟩)), (1, 1, x9), (2, 1, (.string ⟨#[119, 105, 100, 116, 104]⟩))] 9 w fun v33 w34 =>
 kcall Tryz.prog 99 #[x0, v32, v33] w34 fun v35 w36 =>
 Q (.tuple #[]) w36)
 (kldN 7 x6 w fun v37 =>
 kcall Tryz.prog 146 #[v37] w fun v38 w39 =>
 kun .not (some .bool) v38 fun v40 =>
 kB v40 fun b46 => kIf b46
 (kld (.pointer (some ⟨4, 0, none⟩)) w39 fun v41 =>
 kbldS [(.string ⟨#[]⟩)] 3 [(0, 1, (.string ⟨#[99, 111, 109, 112, 111, 110, 101, 110, 116, 115]⟩)), (1, 1, x9), (2, 1, (.string ⟨#[100, 101, 102, 97, 117, 108, 116]⟩))] 9 w39 fun v42 w43 =>
 kcall Tryz.prog 99 #[x0, v41, v42] w43 fun v44 w45 =>
 Q (.tuple #[]) w45)
 (Q (.tuple #[]) w39))
def f100_0 (x0 x2 x6 : Value) (Q : PQ) (w : World) : Prop :=
 kcall Tryz.prog 145 #[x2] w fun v23 w24 =>
 kfld 1 x6 fun v25 =>
 kld v25 w24 fun v26 =>
 kint .i64 .lss v26 (.int .i64 1) fun v27 =>
 kB v27 fun b28 => kIf (!b28)
 (kfld 1 x6 fun v29 =>
 kld v29 w24 fun v30 =>
 kint .i64 .gtr v30 (.int .i64 4) fun v31 =>
 f100_1 x0 x6 v23 v31 Q w24)
 (f100_1 x0 x6 v23 (.bool true) Q w24)
def f100 (x0 x1 x2 : Value) (Q : PQ) (w : World) : Prop :=
 knew (Value.cells x1) 33 w fun v1 w2 =>
 kfld 0 v1 fun v3 =>
 kld v3 w2 fun v4 =>
 kix (some (.slice 105)) (some 7) v4 x2 fun v5 =>
 kldN 7 v5 w2 fun v6 =>
 knew #[(.string ⟨#[]⟩), .int .i64 0, .bool false, .int .i64 0, .int .i64 0, .int .i64 0, .int .i64 0] 105 w2 fun v7 w8 =>
 kst 7 v7 v6 w8 fun w9 =>
 kldN 2 v1 w9 fun v10 =>
 kfld 0 v7 fun v11 =>
 kld v11 w9 fun v12 =>
 kcall Tryz.prog 143 #[v10, v12] w9 fun v13 w14 =>
 kext v13 0 fun v15 =>
 kext v13 1 fun v16 =>
 kfld 0 v7 fun v17 =>
 kld v17 w14 fun v18 =>
 kB v16 fun b19 => kIf b19
 (kint .i64 .lss v15 x2 fun v20 =>
 kcall Tryz.prog 144 #[x0, v18, v20, (.string ⟨#[99, 111, 109, 112, 111, 110, 101, 110, 116, 115]⟩), x2] w14 fun v21 w22 =>
 f100_0 x0 x2 v7 Q w22)
 (kcall Tryz.prog 144 #[x0, v18, .bool false, (.string ⟨#[99, 111, 109, 112, 111, 110, 101, 110, 116, 115]⟩), x2] w14 fun v48 w49 =>
 f100_0 x0 x2 v7 Q w49)
theorem f100_ok {x0 x1 x2 : Value} {Q : PQ} {w : World} (h : f100 x0 x1 x2 Q w) : Meets Tryz.prog 100 #[x0, x1, x2] w Q :=
 sound' (c := Tryz.f100.body.get rfl) [] Tryz.func100 rfl rfl (args := [x0, x1, x2]) rfl (by kernel_rfl) h
def f144 (x0 x1 x2 x3 x4 : Value) (Q : PQ) (w : World) : Prop :=
 kcall Tryz.prog 145 #[x4] w fun v1 w2 =>
 kcall Tryz.prog 168 #[x1] w2 fun v3 w4 =>
 kun .not (some .bool) v3 fun v5 =>
 kB v5 fun b17 => kIf b17
 (kld (.pointer (some ⟨8, 0, none⟩)) w4 fun v6 =>
 kbldS [(.string ⟨#[]⟩)] 3 [(0, 1, x3), (1, 1, v1), (2, 1, (.string ⟨#[110, 97, 109, 101]⟩))] 9 w4 fun v7 w8 =>
 kcall Tryz.prog 99 #[x0, v6, v7] w8 fun v9 w10 =>
 Q (.tuple #[]) w10)
 (kB x2 fun b16 => kIf b16
 (kld (.pointer (some ⟨5, 0, none⟩)) w4 fun v11 =>
 kbldS [(.string ⟨#[]⟩)] 3 [(0, 1, x3), (1, 1, v1), (2, 1, (.string ⟨#[110, 97, 109, 101]⟩))] 9 w4 fun v12 w13 =>
 kcall Tryz.prog 99 #[x0, v11, v12] w13 fun v14 w15 =>
 Q (.tuple #[]) w15)
 (Q (.tuple #[]) w4))
theorem f144_ok {x0 x1 x2 x3 x4 : Value} {Q : PQ} {w : World} (h : f144 x0 x1 x2 x3 x4 Q w) : Meets Tryz.prog 144 #[x0, x1, x2, x3, x4] w Q :=
 sound' (c := Tryz.f144.body.get rfl) [] Tryz.func144 rfl rfl (args := [x0, x1, x2, x3, x4]) rfl (by kernel_rfl) h
def f143 (x0 x1 : Value) (Q : PQ) (w : World) : Prop :=
 knew (Value.cells x0) 33 w fun v1 w2 =>
 knew (Value.cells x1) 9 w2 fun v3 w4 =>
 kfld 0 v1 fun v5 =>
 kld v5 w4 fun v6 =>
 kcall Tryz.prog 166 #[v6, (.func (.func 167) #[] #[v3])] w4 fun v7 w8 =>
 kmm .i64 true v7 (.int .i64 0) fun v9 =>
 kint .i64 .geq v7 (.int .i64 0) fun v11 =>
 Q (.tuple #[v9, v11]) w8
theorem f143_ok {x0 x1 : Value} {Q : PQ} {w : World} (h : f143 x0 x1 Q w) : Meets Tryz.prog 143 #[x0, x1] w Q :=
 sound' (c := Tryz.f143.body.get rfl) [] Tryz.func143 rfl rfl (args := [x0, x1]) rfl (by kernel_rfl) h
def f167 (x0 x1 : Value) (Q : PQ) (w : World) : Prop :=
 knew (Value.cells x0) 105 w fun v1 w2 =>
 kfld 0 v1 fun v3 =>
 kld v3 w2 fun v4 =>
 kld x1 w2 fun v5 =>
 kstr .eql v4 v5 fun v6 =>
 Q v6 w2
theorem f167_ok {x0 x1 : Value} {Q : PQ} {w : World} (h : f167 x0 x1 Q w) : Meets Tryz.prog 167 #[x0, x1] w Q :=
 sound' (c := Tryz.f167.body.get rfl) [] Tryz.func167 rfl rfl (args := [x0, x1]) rfl (by kernel_rfl) h
def f168_3 (x0 x6 x7 x8 : Value) (J2 : Value → World → Prop) (Q : PQ) (w : World) : Prop :=
 kint .i64 .add x8 (.int .i64 1) fun v11 =>
 J2 v11 w
def f168_2 (x0 x6 x7 x8 x17 : Value) (J2 : Value → World → Prop) (Q : PQ) (w : World) : Prop :=
 kB x17 fun b12 => kIf b12
 (Q (.bool false) w)
 (f168_3 x0 x6 x7 x8 J2 Q w)
def f168_1 (x0 x6 x7 x8 : Value) (J2 : Value → World → Prop) (Q : PQ) (w : World) : Prop :=
 kix (some (.slice 5)) (some 1) x6 x8 fun v6 =>
 kld v6 w fun v7 =>
 kint .u8 .lss v7 (.int .u8 97) fun v8 =>
 kB v8 fun b9 => kIf (!b9)
 (kint .u8 .gtr v7 (.int .u8 122) fun v10 =>
 f168_2 x0 x6 x7 x8 v10 J2 Q w)
 (f168_2 x0 x6 x7 x8 (.bool true) J2 Q w)
def f168_4 (x0 : Value) (Q : PQ) (w : World) : Prop :=
 klenStr x0 fun v13 =>
 kint .i64 .geq v13 (.int .i64 1) fun v15 =>
 kB v15 fun b16 => kIf b16
 (klenStr x0 fun v17 =>
 kint .i64 .leq v17 (.int .i64 8) fun v19 =>
 Q v19 w)
 (Q (.bool false) w)
def f168_0 (x8 x0 x6 x7 : Value) (J2 : Value → World → Prop) (Q : PQ) (w : World) : Prop :=
 kint .i64 .lss x8 x7 fun v5 =>
 kB v5 fun b20 => kIf b20
 (f168_1 x0 x6 x7 x8 J2 Q w)
 (f168_4 x0 Q w)
def f168 (x0 : Value) (Q : PQ) (w : World) : Prop :=
 ksem Tryz.prog (convert 9 313 x0) w fun v1 w2 =>
 klen v1 fun v3 =>
 kL fun (I : Value → World → Prop) (μ : Value → World → Nat) => I (.int .i64 0) w2 ∧ ∀ (x8 : Value) (w1 : World), I x8 w1 →
 f168_0 x8 x0 v1 v3 (fun y8 w2 => I y8 w2 ∧ μ y8 w2 < μ x8 w1) Q w1
theorem f168_ok {x0 : Value} {Q : PQ} {w : World} (h : f168 x0 Q w) : Meets Tryz.prog 168 #[x0] w Q :=
 sound' (c := Tryz.f168.body.get rfl) [(2, [8])] Tryz.func168 rfl rfl (args := [x0]) rfl (by kernel_rfl) h
def f146_2 (x8 x9 x10 : Value) (J2 : Value → World → Prop) (Q : PQ) (w : World) : Prop :=
 kint .i64 .add x10 (.int .i64 1) fun v13 =>
 J2 v13 w
def f146_1 (x8 x9 x10 : Value) (J2 : Value → World → Prop) (Q : PQ) (w : World) : Prop :=
 kix (some (.slice 3)) (some 1) x8 x10 fun v10 =>
 kld v10 w fun v11 =>
 kint .i64 .neq v11 (.int .i64 0) fun v12 =>
 kB v12 fun b14 => kIf b14
 (Q (.bool false) w)
 (f146_2 x8 x9 x10 J2 Q w)
def f146_3 (Q : PQ) (w : World) : Prop :=
 Q (.bool true) w
def f146_0 (x10 x8 x9 : Value) (J2 : Value → World → Prop) (Q : PQ) (w : World) : Prop :=
 kint .i64 .lss x10 x9 fun v9 =>
 kB v9 fun b15 => kIf b15
 (f146_1 x8 x9 x10 J2 Q w)
 (f146_3 Q w)
def f146 (x0 : Value) (Q : PQ) (w : World) : Prop :=
 knew (Value.cells x0) 105 w fun v1 w2 =>
 kfld 3 v1 fun v3 =>
 kfld 1 v1 fun v4 =>
 kld v4 w2 fun v5 =>
 ksl (some (.array 4 3)) (some 1) v3 (some v5) none fun v6 =>
 klen v6 fun v7 =>
 kL fun (I : Value → World → Prop) (μ : Value → World → Nat) => I (.int .i64 0) w2 ∧ ∀ (x10 : Value) (w1 : World), I x10 w1 →
 f146_0 x10 v6 v7 (fun y10 w2 => I y10 w2 ∧ μ y10 w2 < μ x10 w1) Q w1
theorem f146_ok {x0 : Value} {Q : PQ} {w : World} (h : f146 x0 Q w) : Meets Tryz.prog 146 #[x0] w Q :=
 sound' (c := Tryz.f146.body.get rfl) [(2, [10])] Tryz.func146 rfl rfl (args := [x0]) rfl (by kernel_rfl) h
def f166_2 (x0 x1 x7 x8 : Value) (J2 : Value → World → Prop) (Q : PQ) (w : World) : Prop :=
 kint .i64 .add x8 (.int .i64 1) fun v8 =>
 J2 v8 w
def f166_1 (x0 x1 x7 x8 : Value) (J2 : Value → World → Prop) (Q : PQ) (w : World) : Prop :=
 kix (some (.slice 105)) (some 7) x0 x8 fun v4 =>
 kldN 7 v4 w fun v5 =>
 kcallV Tryz.prog x1 [v5] w fun v6 w7 =>
 kB v6 fun b9 => kIf b9
 (Q x8 w7)
 (f166_2 x0 x1 x7 x8 J2 Q w7)
def f166_3 (Q : PQ) (w : World) : Prop :=
 Q (.int .i64 (-1)) w
def f166_0 (x8 x0 x1 x7 : Value) (J2 : Value → World → Prop) (Q : PQ) (w : World) : Prop :=
 kint .i64 .lss x8 x7 fun v3 =>
 kB v3 fun b10 => kIf b10
 (f166_1 x0 x1 x7 x8 J2 Q w)
 (f166_3 Q w)
def f166 (x0 x1 : Value) (Q : PQ) (w : World) : Prop :=
 klen x0 fun v1 =>
 kL fun (I : Value → World → Prop) (μ : Value → World → Nat) => I (.int .i64 0) w ∧ ∀ (x8 : Value) (w1 : World), I x8 w1 →
 f166_0 x8 x0 x1 v1 (fun y8 w2 => I y8 w2 ∧ μ y8 w2 < μ x8 w1) Q w1
theorem f166_ok {x0 x1 : Value} {Q : PQ} {w : World} (h : f166 x0 x1 Q w) : Meets Tryz.prog 166 #[x0, x1] w Q :=
 sound' (c := Tryz.f166.body.get rfl) [(2, [8])] Tryz.func166 rfl rfl (args := [x0, x1]) rfl (by kernel_rfl) h
def f145 (x0 : Value) (Q : PQ) (w : World) : Prop :=
 kcall Tryz.prog 169 #[x0] w fun v1 w2 =>
 Q v1 w2
theorem f145_ok {x0 : Value} {Q : PQ} {w : World} (h : f145 x0 Q w) : Meets Tryz.prog 145 #[x0] w Q :=
 sound' (c := Tryz.f145.body.get rfl) [] Tryz.func145 rfl rfl (args := [x0]) rfl (by kernel_rfl) h
def f169 (x0 : Value) (Q : PQ) (w : World) : Prop :=
 kcall Tryz.prog 197 #[x0, .int .i64 10] w fun v1 w2 =>
 Q v1 w2
theorem f169_ok {x0 : Value} {Q : PQ} {w : World} (h : f169 x0 Q w) : Meets Tryz.prog 169 #[x0] w Q :=
 sound' (c := Tryz.f169.body.get rfl) [] Tryz.func169 rfl rfl (args := [x0]) rfl (by kernel_rfl) h
def f197_3 (x5 x7 : Value) (Q : PQ) (w : World) : Prop :=
 kint .i64 .add (.int .i64 1) x7 fun v25 =>
 ksl (some (.array 24 5)) (some 1) x5 (some (.int .i64 1)) (some v25) fun v26 =>
 ksem Tryz.prog (convert 313 9 v26) w fun v27 w28 =>
 Q v27 w28
def f197_2 (x0 x5 x6 : Value) (Q : PQ) (w : World) : Prop :=
 kcall Tryz.prog 210 #[x6] w fun v12 w13 =>
 kint .i64 .add (.int .i64 1) v12 fun v14 =>
 ksl (some (.array 24 5)) (some 1) x5 (some (.int .i64 1)) (some v14) fun v15 =>
 kcall Tryz.prog 211 #[v15, x6] w13 fun v16 w17 =>
 kint .i64 .lss x0 (.int .i64 0) fun v18 =>
 kB v18 fun b29 => kIf b29
 (kix (some (.array 24 5)) (some 1) x5 (.int .i64 0) fun v19 =>
 kst 1 v19 (.int .u8 45) w17 fun w20 =>
 kint .i64 .add (.int .i64 1) v12 fun v21 =>
 ksl (some (.array 24 5)) (some 1) x5 none (some v21) fun v22 =>
 ksem Tryz.prog (convert 313 9 v22) w20 fun v23 w24 =>
 Q v23 w24)
 (f197_3 x5 v12 Q w17)
def f197_1 (x0 : Value) (Q : PQ) (w : World) : Prop :=
 knew #[.int .u8 0, .int .u8 0, .int .u8 0, .int .u8 0, .int .u8 0, .int .u8 0, .int .u8 0, .int .u8 0, .int .u8 0, .int .u8 0, .int .u8 0, .int .u8 0, .int .u8 0, .int .u8 0, .int .u8 0, .int .u8 0, .int .u8 0, .int .u8 0, .int .u8 0, .int .u8 0, .int .u8 0, .int .u8 0, .int .u8 0, .int .u8 0] 324 w fun v7 w8 =>
 kcnv .u64 x0 fun v9 =>
 kint .i64 .lss x0 (.int .i64 0) fun v10 =>
 kB v10 fun b30 => kIf b30
 (kun .neg (some (.int .u64)) v9 fun v11 =>
 f197_2 x0 v7 v11 Q w8)
 (f197_2 x0 v7 v9 Q w8)
def f197_0 (x0 x17 : Value) (Q : PQ) (w : World) : Prop :=
 kB x17 fun b31 => kIf b31
 (kcall Tryz.prog 209 #[x0] w fun v5 w6 =>
 Q v5 w6)
 (f197_1 x0 Q w)
def f197_4 (x0 x1 : Value) (Q : PQ) (w : World) : Prop :=
 kcnv .u64 x0 fun v32 =>
 kint .i64 .lss x0 (.int .i64 0) fun v33 =>
 kcall Tryz.prog 212 #[.slice none 0 0, v32, x1, v33, .bool false] w fun v34 w35 =>
 kext v34 0 fun v36 =>
 kext v34 1 fun v37 =>
 Q v37 w35
def f197 (x0 x1 : Value) (Q : PQ) (w : World) : Prop :=
 kint .i64 .eql x1 (.int .i64 10) fun v1 =>
 kB v1 fun b38 => kIf b38
 (kint .i64 .leq (.int .i64 0) x0 fun v2 =>
 kB v2 fun b3 => kIf b3
 (kint .i64 .lss x0 (.int .i64 100) fun v4 =>
 f197_0 x0 v4 Q w)
 (f197_0 x0 (.bool false) Q w))
 (f197_4 x0 x1 Q w)
theorem f197_ok {x0 x1 : Value} {Q : PQ} {w : World} (h : f197 x0 x1 Q w) : Meets Tryz.prog 197 #[x0, x1] w Q :=
 sound' (c := Tryz.f197.body.get rfl) [] Tryz.func197 rfl rfl (args := [x0, x1]) rfl (by kernel_rfl) h
def f209_0 (x0 : Value) (Q : PQ) (w : World) : Prop :=
 kint .i64 .mul x0 (.int .i64 2) fun v4 =>
 kint .i64 .mul x0 (.int .i64 2) fun v5 =>
 kint .i64 .add v5 (.int .i64 2) fun v6 =>
 ksl (some .string) none (.string ⟨#[48, 48, 48, 49, 48, 50, 48, 51, 48, 52, 48, 53, 48, 54, 48, 55, 48, 56, 48, 57, 49, 48, 49, 49, 49, 50, 49, 51, 49, 52, 49, 53, 49, 54, 49, 55, 49, 56, 49, 57, 50, 48, 50, 49, 50, 50, 50, 51, 50, 52, 50, 53, 50, 54, 50, 55, 50, 56, 50, 57, 51, 48, 51, 49, 51, 50, 51, 51, 51, 52, 51, 53, 51, 54, 51, 55, 51, 56, 51, 57, 52, 48, 52, 49, 52, 50, 52, 51, 52, 52, 52, 53, 52, 54, 52, 55, 52, 56, 52, 57, 53, 48, 53, 49, 53, 50, 53, 51, 53, 52, 53, 53, 53, 54, 53, 55, 53, 56, 53, 57, 54, 48, 54, 49, 54, 50, 54, 51, 54, 52, 54, 53, 54, 54, 54, 55, 54, 56, 54, 57, 55, 48, 55, 49, 55, 50, 55, 51, 55, 52, 55, 53, 55, 54, 55, 55, 55, 56, 55, 57, 56, 48, 56, 49, 56, 50, 56, 51, 56, 52, 56, 53, 56, 54, 56, 55, 56, 56, 56, 57, 57, 48, 57, 49, 57, 50, 57, 51, 57, 52, 57, 53, 57, 54, 57, 55, 57, 56, 57, 57]⟩) (some v4) (some v6) fun v7 =>
 Q v7 w
def f209 (x0 : Value) (Q : PQ) (w : World) : Prop :=
 kint .i64 .lss x0 (.int .i64 10) fun v1 =>
 kB v1 fun b8 => kIf b8
 (kint .i64 .add x0 (.int .i64 1) fun v2 =>
 ksl (some .string) none (.string ⟨#[48, 49, 50, 51, 52, 53, 54, 55, 56, 57, 97, 98, 99, 100, 101, 102, 103, 104, 105, 106, 107, 108, 109, 110, 111, 112, 113, 114, 115, 116, 117, 118, 119, 120, 121, 122]⟩) (some x0) (some v2) fun v3 =>
 Q v3 w)
 (f209_0 x0 Q w)
theorem f209_ok {x0 : Value} {Q : PQ} {w : World} (h : f209 x0 Q w) : Meets Tryz.prog 209 #[x0] w Q :=
 sound' (c := Tryz.f209.body.get rfl) [] Tryz.func209 rfl rfl (args := [x0]) rfl (by kernel_rfl) h
end
section
attribute [local irreducible] kO kB kStr kInt kN kG kIf kfld kld kldN kst knew kmap kbld kbldS kext kcnv klenStr klen kcap kprt kprtN kbool kint kstr keq kun ksl kix kiv kta kmk kmm ksem ksemU kextf kcallV kcallM kcall kL
def byV (x : UInt8) : Value := .int .u8 (x.toNat : Int)
theorem slBy : Tryz.prog.underlying 313 = some (.slice 5) := by kernel_rfl
theorem uBy : Tryz.prog.underlying 5 = some (.int .u8) := by kernel_rfl
theorem uSt : Tryz.prog.underlying 9 = some .string := by kernel_rfl
theorem ksem_tobytes {w : World} {s : ByteArray} {K : Value → World → Prop} (h : ∀ c w', Same w w' → SlIs w' (some ⟨w.heap.size, 0, none⟩) s.size 1 (s.data.toList.map byV) → K (.slice (some ⟨w.heap.size, 0, none⟩) s.size c) w') :
  ksem Tryz.prog (convert 9 313 (.string s)) w K := by
 rw [ksem_ok (Go.Lib.run_convert_string_bytes w _ _ _ s uSt slBy uBy)]
 refine h _ _ ⟨rfl, rfl, rfl, by rw [Go.Lib.bytesWorld_size]; omega, fun k hk _ => Go.Lib.bytesWorld_at_old w _ s k hk⟩ ⟨by rw [List.length_map, Nat.mul_one]; rfl, .inr ⟨_, 0, _, _, _, rfl, Go.Lib.bytesWorld_at_new w _ s, ?_⟩⟩
 have e : (Go.Lib.bytesCells w 5 s).toList = s.data.toList.map byV ++ List.replicate (grownCap w s.size 0 5 - s.size) (.int .u8 0) := by
  unfold Go.Lib.bytesCells
  rw [Array.toList_append, Array.toList_map, Array.toList_replicate]; rfl
 rw [e, List.drop_zero, List.take_append_of_le_length (by rw [List.length_map]; exact Nat.le_of_eq (Nat.mul_one _)), List.take_of_length_le (by rw [List.length_map]; exact Nat.le_of_eq (Nat.mul_one _).symm)]
def NameOk (s : ByteArray) : Prop := 1 ≤ s.size ∧ s.size ≤ 8 ∧ ∀ x ∈ s.data.toList, 97 ≤ x.toNat ∧ x.toNat ≤ 122
theorem isName_spec {s : ByteArray} (h : NameOk s) (w : World) : Meets Tryz.prog 168 #[.string s] w fun v w' => v = .bool true ∧ Same w w' := by
 obtain ⟨h1, h8, hall⟩ := h
 refine f168_ok ?_
 unfold f168
 refine ksem_tobytes fun c w2 h2 hs2 => ?_
 have hsz : s.data.toList.length = s.size := rfl
 refine klen_at ?_
 refine kL1_of s.size (fun j x wr => x = .int .i64 j ∧ wr = w2) ⟨lI1_0 ⟨rfl, rfl⟩, fun x wr hx => ?_⟩
 obtain ⟨j, hj, ⟨rfl, rfl⟩, hJ⟩ := lI1_step hx
 unfold f168_0
 refine lss_at ?_
 refine kB_at ?_
 refine kIf_dec (fun hlt => ?_) (fun hge => ?_)
 ·have hlt : j < s.size := by omega
  have hjl : j < s.data.toList.length := by omega
  have hb := hall _ (List.getElem_mem hjl)
  unfold f168_1
  have := hs2
  rw [← hsz] at this
  refine kixld_of (F := byV) (l := s.data.toList) this hjl rfl ?_ |> fun h => by rw [hsz] at h; exact h
  generalize s.data.toList[j] = x at *
  rw [byV]
  refine lss_at ?_
  rw [decF (by omega)]
  refine kB_at ?_
  refine kIf_T rfl ?_
  refine gtr_at ?_
  rw [decF (by omega)]
  unfold f168_2
  refine kB_at ?_
  refine kIf_F rfl ?_
  refine add_at (by omega) (by omega) ?_
  rw [cast_succ]
  exact hJ _ _ hlt ⟨rfl, rfl⟩
 ·unfold f168_4
  refine klenStr_at ?_
  refine geq_at ?_
  rw [decT (by omega)]
  refine kB_at ?_
  refine kIf_T rfl ?_
  refine klenStr_at ?_
  refine leq_at ?_
  rw [decT (by omega)]
  exact ⟨rfl, h2⟩
theorem find1_spec (q : Comp) {w : World} {bc : Nat} {s : ByteArray} (hb : blk w bc = some (.cells #[.string s] 9)) : Meets Tryz.prog 167 #[.agg q.cells.toArray, .pointer (some ⟨bc, 0, none⟩)] w fun v w' => v = .bool (decide (q.name = s)) ∧ Same w w' := by
 refine f167_ok ?_
 refine knew_of fun w2 hm2 hs2 hb2 => ?_
 have hb2 : blk w2 w.heap.size = some (.cells q.cells.toArray 105) := hb2
 have hbc := hm2.get hb (fun h => h)
 refine kfld_of ?_
 refine kld_of (v := .string q.name) hb2 (by simp [Comp.cells]) ?_
 refine kld_of (v := .string s) hbc rfl ?_
 rw [kstr_eql]
 exact ⟨rfl, hm2⟩
theorem indexC_spec {w : World} {a : Option Addr} {L : List Comp} {cp : Nat} (hs : SlIs w a L.length 7 (L.flatMap Comp.cells)) {bc : Nat} {s : ByteArray} (hb : blk w bc = some (.cells #[.string s] 9)) {k : Nat} (hk : k < L.length) (hkc : (L[k]).name = s) (hbef : ∀ j (hj : j < L.length), j < k → (L[j]).name ≠ s) (hlen : L.length ≤ 1000000) :
  Meets Tryz.prog 166 #[.slice a L.length cp, .func (.func 167) #[] #[.pointer (some ⟨bc, 0, none⟩)]] w fun v w' => v = .int .i64 k ∧ Same w w' := by
 refine f166_ok ?_
 unfold f166
 refine klen_at ?_
 refine kL1_of L.length (fun j x wr => x = .int .i64 j ∧ j ≤ k ∧ Same w wr) ⟨lI1_0 ⟨rfl, by omega, Mod.refl _ _⟩, fun x wr hx => ?_⟩
 obtain ⟨j, hj, ⟨rfl, hjk, hm⟩, hJ⟩ := lI1_step hx
 unfold f166_0
 refine lss_at ?_
 refine kB_at ?_
 refine kIf_dec (fun hlt => ?_) (fun hge => ?_)
 ·have hlt : j < L.length := by omega
  unfold f166_1
  refine kixldN_of (F := Comp.cells) (sz := 7) (fun _ => rfl) (by omega) (hs.same hm) hlt rfl ?_
  refine kcallC_of (find1_spec L[j] (hm.get hb (fun h => h))) ?_
  rintro v w7 ⟨rfl, h7⟩
  by_cases hjk' : j = k
  ·subst hjk'
   rw [hkc]
   rw [decT rfl]
   refine kB_at ?_
   refine kIf_T rfl ?_
   exact ⟨rfl, hm.trans h7⟩
  ·rw [decF (hbef j hlt (by omega))]
   refine kB_at ?_
   refine kIf_F rfl ?_
   unfold f166_2
   refine add_at (by omega) (by omega) ?_
   rw [cast_succ]
   exact hJ _ _ hlt ⟨rfl, by omega, hm.trans h7⟩
 ·omega
structure GoodSc (L : List Comp) : Prop where
 len : L.length ≤ 16
 names : ∀ q ∈ L, NameOk q.name
 apart : ∀ i j (hi : i < L.length) (hj : j < L.length), L[i].name = L[j].name → i = j
 wide : ∀ q ∈ L, ∃ d : Nat, q.width = (d : Int) ∧ 1 ≤ d ∧ d ≤ 4
 clean : ∀ q ∈ L, (q.width ≤ 1 → q.d1 = 0) ∧ (q.width ≤ 2 → q.d2 = 0) ∧ (q.width ≤ 3 → q.d3 = 0)
def scV (a : Option Addr) (n c : Nat) (rv : Value) : Value := .agg #[.slice a n c, rv]
theorem find_spec {w : World} {a : Option Addr} {L : List Comp} {cp : Nat} {ra : Option Addr} {rn rc : Nat} (hs : SlIs w a L.length 7 (L.flatMap Comp.cells)) (hG : GoodSc L) {k : Nat} (hk : k < L.length) :
  Meets Tryz.prog 143 #[scV a L.length cp (.slice ra rn rc), .string (L[k]).name] w fun v w' => v = .tuple #[.int .i64 k, .bool true] ∧ Same w w' := by
 have hl := hG.len
 rw [scV]
 refine f143_ok ?_
 unfold f143
 refine knew_of fun w2 hm2 hs2 hb2 => ?_
 have hb2 : blk w2 w.heap.size = some (.cells #[.slice a L.length cp, .slice ra rn rc] 33) := hb2
 refine knew_of fun w4 hm4 hs4 hb4 => ?_
 have hb4 : blk w4 w2.heap.size = some (.cells #[.string (L[k]).name] 9) := hb4
 have hb24 := hm4.get hb2 (fun h => h)
 refine kfld_of ?_
 refine kld_at hb24 rfl ?_
 refine kcall_of (indexC_spec (hs.same (hm2.trans hm4)) hb4 hk rfl (fun j hj hjk e => by have := hG.apart j k hj hk e; omega) (by omega)) ?_
 rintro v w8 ⟨rfl, h8⟩
 rw [kmm_max]
 refine geq_at ?_
 rw [decT (by omega), show max (k : Int) 0 = (k : Int) by omega]
 exact ⟨rfl, (hm2.trans hm4).trans h8⟩
end
section
attribute [local irreducible] kO kB kStr kInt kN kG kIf kfld kld kldN kst knew kmap kbld kbldS kext kcnv klenStr klen kcap kprt kprtN kbool kint kstr keq kun ksl kix kiv kta kmk kmm ksem ksemU kextf kcallV kcallM kcall kL
theorem smallS_spec {n : Nat} (hn : n < 100) (w : World) : Meets Tryz.prog 209 #[.int .i64 n] w fun v w' => (∃ s, v = .string s) ∧ w' = w := by
 refine f209_ok ?_
 unfold f209
 rw [kint_lss, kB_bool]
 refine kIf_dec (fun h => ?_) (fun h => ?_)
 ·rw [kint_add, wrap_i64 (by omega) (by omega), ksl_string rfl rfl]
  have hsz : (⟨#[48, 49, 50, 51, 52, 53, 54, 55, 56, 57, 97, 98, 99, 100, 101, 102, 103, 104, 105, 106, 107, 108, 109, 110, 111, 112, 113, 114, 115, 116, 117, 118, 119, 120, 121, 122]⟩ : ByteArray).size = 36 := rfl
  refine kG_of (by simp only [loV_int, hiV_int, hsz]; omega) ?_
  exact ⟨⟨_, rfl⟩, rfl⟩
 ·unfold f209_0
  rw [kint_mul, wrap_i64 (by omega) (by omega), kint_mul, wrap_i64 (by omega) (by omega), kint_add, wrap_i64 (by omega) (by omega), ksl_string rfl rfl]
  refine kG_of ?_ ?_
  ·simp only [loV_int, hiV_int]
   refine ⟨by omega, by omega, ?_⟩
   show (n : Int) * 2 + 2 ≤ ((200 : Nat) : Int)
   omega
  exact ⟨⟨_, rfl⟩, rfl⟩
theorem itoaS_spec {n : Nat} (hn : n < 100) (w : World) : Meets Tryz.prog 145 #[.int .i64 n] w fun v w' => (∃ s, v = .string s) ∧ w' = w := by
 have h2 : Meets Tryz.prog 197 #[.int .i64 n, .int .i64 10] w fun v w' => (∃ s, v = .string s) ∧ w' = w := by
  refine f197_ok ?_
  unfold f197
  rw [kint_eql, kB_bool]
  refine kIf_dec (fun _ => ?_) (fun h => absurd rfl h)
  rw [kint_leq, kB_bool]
  refine kIf_dec (fun _ => ?_) (fun h => absurd (by omega) h)
  rw [kint_lss]
  unfold f197_0
  rw [kB_bool]
  refine kIf_dec (fun _ => ?_) (fun h => absurd (by omega) h)
  refine kcall_of (smallS_spec hn w) ?_
  rintro v w' h
  exact h
 have h3 : Meets Tryz.prog 169 #[.int .i64 n] w fun v w' => (∃ s, v = .string s) ∧ w' = w := by
  refine f169_ok ?_
  unfold f169
  refine kcall_of h2 ?_
  rintro v w' h
  exact h
 refine f145_ok ?_
 unfold f145
 refine kcall_of h3 ?_
 rintro v w' h
 exact h
theorem named_spec {s : ByteArray} (h : NameOk s) (f : Value) (kd : Value) {n : Nat} (hn : n < 100) (w : World) : Meets Tryz.prog 144 #[f, .string s, .bool false, kd, .int .i64 n] w fun v w' => v = .tuple #[] ∧ Same w w' := by
 refine f144_ok ?_
 unfold f144
 refine kcall_of (itoaS_spec hn w) ?_
 rintro v w2 ⟨⟨s2, rfl⟩, rfl⟩
 refine kcall_of (isName_spec h _) ?_
 rintro v w4 ⟨rfl, h4⟩
 refine not_at ?_
 refine kB_at ?_
 refine kIf_F rfl ?_
 refine kB_at ?_
 refine kIf_F rfl ?_
 exact ⟨rfl, h4⟩
theorem isClean_spec {nm : ByteArray} {rb : Bool} {d : Nat} (h1 : 1 ≤ d) (h4 : d ≤ 4) {d0 d1 d2 d3 : Int} (c1 : (d : Int) ≤ 1 → d1 = 0) (c2 : (d : Int) ≤ 2 → d2 = 0) (c3 : (d : Int) ≤ 3 → d3 = 0) (w : World) : Meets Tryz.prog 146 #[.agg #[.string nm, .int .i64 d, .bool rb, .int .i64 d0, .int .i64 d1, .int .i64 d2, .int .i64 d3]] w fun v w' => v = .bool true ∧ Same w w' := by
 refine f146_ok ?_
 unfold f146
 refine knew_of fun w2 hm2 hs2 hb2 => ?_
 have hb2 : blk w2 w.heap.size = some (.cells #[.string nm, .int .i64 d, .bool rb, .int .i64 d0, .int .i64 d1, .int .i64 d2, .int .i64 d3] 105) := hb2
 refine kfld_of ?_
 refine kfld_of ?_
 refine kld_at hb2 rfl ?_
 refine ksl_arr_lo (n := d) (by omega) ?_
 have hsl : SlIs w2 (some ⟨w.heap.size, if 4 = d then 0 + 3 else 0 + 3 + d * 1, none⟩) (List.replicate (4 - d) (0 : Int)).length 1 ((List.replicate (4 - d) (0 : Int)).map (Value.int .i64)) := by
  refine ⟨by simp, ?_⟩
  by_cases h : 4 = d
  ·left; simp; omega
  ·refine .inr ⟨_, _, _, _, _, rfl, hb2, ?_⟩
   rw [if_neg h]
   have : d = 1 ∨ d = 2 ∨ d = 3 := by omega
   rcases this with rfl | rfl | rfl
   ·obtain rfl := c1 (by omega)
    obtain rfl := c2 (by omega)
    obtain rfl := c3 (by omega)
    rfl
   ·obtain rfl := c2 (by omega)
    obtain rfl := c3 (by omega)
    rfl
   ·obtain rfl := c3 (by omega)
    rfl
 have hrl : (List.replicate (4 - d) (0 : Int)).length = 4 - d := by simp
 refine klen_at ?_
 refine kL1_of (4 - d) (fun j x wr => x = .int .i64 j ∧ wr = w2) ⟨lI1_0 ⟨rfl, rfl⟩, fun x wr hx => ?_⟩
 obtain ⟨j, hj, ⟨rfl, rfl⟩, hJ⟩ := lI1_step hx
 unfold f146_0
 refine lss_at ?_
 refine kB_at ?_
 refine kIf_dec (fun hlt => ?_) (fun hge => ?_)
 ·have hlt : j < 4 - d := by omega
  unfold f146_1
  refine kixld_of (F := Value.int .i64) (l := List.replicate (4 - d) (0 : Int)) hsl (by omega) rfl ?_ |> fun h => by rw [hrl] at h; exact h
  rw [List.getElem_replicate]
  refine neq_at ?_
  rw [decF (by omega)]
  refine kB_at ?_
  refine kIf_F rfl ?_
  unfold f146_2
  refine add_at (by omega) (by omega) ?_
  rw [cast_succ]
  exact hJ _ _ hlt ⟨rfl, rfl⟩
 ·exact ⟨rfl, hm2⟩
theorem component_spec {w : World} {a : Option Addr} {L : List Comp} {cp : Nat} {ra : Option Addr} {rn rc : Nat} (hs : SlIs w a L.length 7 (L.flatMap Comp.cells)) (hG : GoodSc L) {k : Nat} (hk : k < L.length) (f : Value) :
  Meets Tryz.prog 100 #[f, scV a L.length cp (.slice ra rn rc), .int .i64 k] w fun v w' => v = .tuple #[] ∧ Same w w' := by
 have hl := hG.len
 have hkm := List.getElem_mem hk
 obtain ⟨d, hd, hd1, hd4⟩ := hG.wide _ hkm
 rw [scV]
 refine f100_ok ?_
 unfold f100
 refine knew_of fun w2 hm2 hs2 hb2 => ?_
 have hb2 : blk w2 w.heap.size = some (.cells #[.slice a L.length cp, .slice ra rn rc] 33) := hb2
 refine kfld_of ?_
 refine kld_at hb2 rfl ?_
 refine kixldN_of (F := Comp.cells) (sz := 7) (fun _ => rfl) (by omega) (hs.same hm2) hk rfl ?_
 refine knew_of fun w8 h8 hs8 hb8 => ?_
 refine kst_of (vs := (L[k]).cells) hb8 rfl rfl rfl (by simp) (by simp [Comp.cells]) fun w9 h9 hs9 hb9 => ?_
 have hb9 : blk w9 w2.heap.size = some (.cells (L[k]).cells.toArray 105) := hb9
 have hb9' : blk w9 w2.heap.size = some (.cells #[.string (L[k]).name, .int .i64 d, .bool (L[k]).rb, .int .i64 (L[k]).d0, .int .i64 (L[k]).d1, .int .i64 (L[k]).d2, .int .i64 (L[k]).d3] 105) := by
  rw [hb9]; simp [Comp.cells, hd]
 obtain ⟨z1, z2, z3⟩ := hG.clean _ hkm
 rw [hd] at z1 z2 z3
 have hb29 := h9.get (h8.get hb2 (fun h => h)) (by omega)
 have m9 : Same w w9 := (hm2.trans h8).trans' (h9.mono fun k _ e => .inr (by omega))
 refine kldN_at hb29 rfl (by omega) ?_
 refine kfld_of ?_
 refine kld_at hb9' rfl ?_
 have hfs := find_spec (ra := ra) (rn := rn) (rc := rc) (cp := cp) (hs.same m9) hG hk
 rw [scV] at hfs
 refine kcall_of hfs ?_
 rintro v w14 ⟨rfl, h14⟩
 have hb14 := h14.get hb9' (fun h => h)
 refine kext_at rfl ?_
 refine kext_at rfl ?_
 refine kfld_of ?_
 refine kld_at hb14 rfl ?_
 refine kB_at ?_
 refine kIf_T rfl ?_
 refine lss_at ?_
 rw [decF (show ¬ (k : Int) < (k : Int) by omega)]
 refine kcall_of (named_spec (hG.names _ hkm) f _ (by omega) w14) ?_
 rintro v w22 ⟨rfl, h22⟩
 have hb22 := h22.get hb14 (fun h => h)
 unfold f100_0
 refine kcall_of (itoaS_spec (by omega) w22) ?_
 rintro v w24 ⟨⟨s2, rfl⟩, rfl⟩
 refine kfld_of ?_
 refine kld_at hb22 rfl ?_
 refine lss_at ?_
 refine kB_at ?_
 refine kIf_T (notT (decF (by omega))) ?_
 refine kfld_of ?_
 refine kld_at hb22 rfl ?_
 refine gtr_at ?_
 refine kB_at ?_
 refine kIf_F (decF (by omega)) ?_
 refine kldN_at hb22 rfl (by omega) ?_
 refine kcall_of (isClean_spec hd1 hd4 z1 z2 z3 _) ?_
 rintro v w39 ⟨rfl, h39⟩
 refine not_at ?_
 refine kB_at ?_
 refine kIf_F rfl ?_
 exact ⟨rfl, ((m9.trans h14).trans h22).trans h39⟩
end
section
attribute [local irreducible] kO kB kStr kInt kN kG kIf kfld kld kldN kst knew kmap kbld kbldS kext kcnv klenStr klen kcap kprt kprtN kbool kint kstr keq kun ksl kix kiv kta kmk kmm ksem ksemU kextf kcallV kcallM kcall kL
theorem check_spec {w : World} {a : Option Addr} {L : List Comp} {cp : Nat} {ra : Option Addr} {rc : Nat} (hs : SlIs w a L.length 7 (L.flatMap Comp.cells)) (hG : GoodSc L) :
  Meets Tryz.prog 43 #[scV a L.length cp (.slice ra 0 rc)] w fun v w' => v = .nilIface ∧ Same w w' := by
 have hl := hG.len
 rw [scV]
 refine f43_ok ?_
 unfold f43
 refine knew_of fun w2 hm2 hs2 hb2 => ?_
 have hb2 : blk w2 w.heap.size = some (.cells #[.slice a L.length cp, .slice ra 0 rc] 33) := hb2
 refine kbld_of (cs := [.slice none 0 0]) rfl ?_
 refine knew_of fun w5 hm5 hs5 hb5 => ?_
 have hb25 := hm5.get hb2 (fun h => h)
 have m5 := hm2.trans hm5
 refine kfld_of ?_
 refine kld_at hb25 rfl ?_
 refine klen_at ?_
 refine gtr_at ?_
 refine kB_at ?_
 refine kIf_F (decF (by omega)) ?_
 refine kfld_of ?_
 refine kld_at hb25 rfl ?_
 refine klen_at ?_
 refine kL1_of L.length (fun j x wr => x = .int .i64 j ∧ Same w5 wr) ⟨lI1_0 ⟨rfl, Mod.refl _ _⟩, fun x wr hx => ?_⟩
 obtain ⟨j, hj, ⟨rfl, hm⟩, hJ⟩ := lI1_step hx
 have hbr := hm.get hb25 (fun h => h)
 have h5r := hm.get hb5 (fun h => h)
 unfold f43_1
 refine lss_at ?_
 refine kB_at ?_
 refine kIf_dec (fun hlt => ?_) (fun hge => ?_)
 ·have hlt : j < L.length := by omega
  unfold f43_2
  refine kldN_at hbr rfl (by omega) ?_
  have hcs := component_spec (ra := ra) (rn := 0) (rc := rc) (cp := cp) (hs.same (m5.trans hm)) hG hlt (.pointer (some ⟨w2.heap.size, 0, none⟩))
  rw [scV] at hcs
  refine kcall_of hcs ?_
  rintro v w23 ⟨rfl, h23⟩
  refine add_at (by omega) (by omega) ?_
  rw [cast_succ]
  exact hJ _ _ hlt ⟨rfl, hm.trans h23⟩
 ·unfold f43_4
  refine kfld_of ?_
  refine kld_at hbr rfl ?_
  refine klen_at ?_
  refine gtr_at ?_
  refine kB_at ?_
  refine kIf_F rfl ?_
  refine kfld_of ?_
  refine kld_at hbr rfl ?_
  refine klen_at ?_
  refine kL1_of 0 (fun j x w1 => x = .int .i64 0 ∧ w1 = wr) ⟨lI1_0 ⟨rfl, rfl⟩, fun x w1 hx => ?_⟩
  obtain ⟨j', hj', ⟨rfl, rfl⟩, _⟩ := lI1_step hx
  unfold f43_6
  refine lss_at ?_
  refine kB_at ?_
  refine kIf_F (by simp) ?_
  unfold f43_9
  have h5r : blk w1 w2.heap.size = some (.cells #[.slice none 0 0] 180) := h5r
  refine kN_at ?_
  refine kfld_of ?_
  refine kld_at h5r rfl ?_
  refine kcall_of (All_spec (S := fun _ => ⟨0, 0, none⟩) (d := 0) (zs := []) (SlIs.nil _ _ _) (fun p hp => by cases hp) (by simp) (by simp)) ?_
  rintro v w46 ⟨h1, h46⟩
  rcases h1.nil_iff with ⟨_, rfl⟩ | ⟨h, _⟩
  ·exact ⟨rfl, (m5.trans hm).trans h46⟩
  ·exact absurd rfl h
end
section
attribute [local irreducible] kO kB kStr kInt kN kG kIf kfld kld kldN kst knew kmap kbld kbldS kext kcnv klenStr klen kcap kprt kprtN kbool kint kstr keq kun ksl kix kiv kta kmk kmm ksem ksemU kextf kcallV kcallM kcall kL
theorem apComp : appT Tryz.prog 30 7 64 = true := by kernel_rfl
theorem slComp : isSlT Tryz.prog 30 = true := by kernel_rfl
theorem slComp_is : ∃ e, Tryz.prog.underlying 30 = some (.slice e) := slT_of (by kernel_rfl)
theorem apRes : appT Tryz.prog 31 2 24 = true := by kernel_rfl
theorem slRes : isSlT Tryz.prog 31 = true := by kernel_rfl
theorem slRes_is : ∃ e, Tryz.prog.underlying 31 = some (.slice e) := slT_of (by kernel_rfl)
theorem ones_comps : ∀ L : List Comp, oneCells (L.flatMap Comp.cells) = true
 | [] => rfl
 | q :: L => by
  rw [List.flatMap_cons]
  show oneCells (.string q.name :: .int .i64 q.width :: .bool q.rb :: .int .i64 q.d0 :: .int .i64 q.d1 :: .int .i64 q.d2 :: .int .i64 q.d3 :: L.flatMap Comp.cells) = true
  simp only [oneCells, ones_comps L]; rfl
theorem cloneC_spec {w : World} {a : Option Addr} {L : List Comp} {c : Nat} (hs : SlIs w a L.length 7 (L.flatMap Comp.cells)) (hn : L.length ≤ 1000000) :
  Meets Tryz.prog 47 #[.slice a L.length c] w fun v w' => Own w' v 7 (L.flatMap Comp.cells) ∧ Same w w' ∧ (∀ k, vblk v k → w.heap.size ≤ k) := by
 have hfl := flat_len Comp.cells 7 (fun _ => rfl) L
 refine f47_ok ?_
 unfold f47
 rw [keq_sl_nil slComp]
 cases a with
 | none =>
  have hL : L.length = 0 := by rcases hs.2 with h | ⟨_, _, _, _, _, h, _⟩; exact h; cases h
  have : L = [] := List.eq_nil_of_length_eq_zero hL
  subst this
  refine kB_at ?_
  refine kIf_T rfl ?_
  exact ⟨Own.nil _ _, Mod.refl _ _, fun b hb => by obtain ⟨_, _, _, h⟩ := hb; cases h⟩
 | some a =>
  refine kB_at ?_
  refine kIf_F rfl ?_
  unfold f47_0
  refine kbldS_of (cs := []) rfl fun w5 h5 hs5 hb5 => ?_
  refine ksem_append apComp (by omega) (vs := []) (Own.blk hb5 (n := 0) (by simp) (by simp [maxLen])) (Src.ofSlIs (hk := slComp_is.choose_spec) c (hs.same h5) (ones_comps L)) (by simp [hfl]; omega) (by simp [hfl]; omega) ?_
  intro v' w' ho hm hf
  refine ⟨by simpa using ho, Mod.after h5 hm (fun b hb => by rw [vblk_new hb]; exact Nat.le_refl _), fun b hb => ?_⟩
  rcases hf b hb with h | h
  ·rw [vblk_new h]; exact Nat.le_refl _
  ·omega
theorem cloneR_spec {w : World} {a : Option Addr} {c : Nat} :
  Meets Tryz.prog 48 #[.slice a 0 c] w fun v w' => (∃ a' n' c', v = .slice a' n' c') ∧ Same w w' := by
 refine f48_ok ?_
 unfold f48
 rw [keq_sl_nil slRes]
 cases a with
 | none =>
  refine kB_at ?_
  refine kIf_T rfl ?_
  exact ⟨⟨_, _, _, rfl⟩, Mod.refl _ _⟩
 | some a =>
  refine kB_at ?_
  refine kIf_F rfl ?_
  unfold f48_0
  refine kbldS_of (cs := []) rfl fun w5 h5 hs5 hb5 => ?_
  refine ksem_append apRes (by omega) (vs := []) (Own.blk hb5 (n := 0) (by simp) (by simp [maxLen])) (Src.ofSlIs (hk := slRes_is.choose_spec) c (SlIs.nil _ _ _) rfl) (by simp) (by simp) ?_
  intro v' w' ho hm hf
  obtain ⟨a', n', c', rfl, _⟩ := ho.is
  exact ⟨⟨_, _, _, rfl⟩, Mod.after h5 hm (fun b hb => by rw [vblk_new hb]; exact Nat.le_refl _)⟩
end
section
attribute [local irreducible] kO kB kStr kInt kN kG kIf kfld kld kldN kst knew kmap kbld kbldS kext kcnv klenStr klen kcap kprt kprtN kbool kint kstr keq kun ksl kix kiv kta kmk kmm ksem ksemU kextf kcallV kcallM kcall kL
def newS0 (L : List Comp) (most : Nat) : SM := ⟨List.replicate most (0, false), (List.range most).reverse, L, [0], [], List.replicate most (0, 0)⟩
def newS (L : List Comp) (most : Nat) : SM := layS (newS0 L most) 1
theorem newS_gs {L : List Comp} {most : Nat} (h : most ≤ 64) : GS (newS L most) 0 := by
 have hd : ∀ (i : Nat) (x : Int × Bool), (List.replicate most ((0 : Int), false))[i]? = some x → x = (0, false) := fun i x e => by
  obtain ⟨_, e⟩ := List.getElem?_eq_some_iff.1 e
  rw [List.getElem_replicate] at e; exact e.symm
 refine ⟨⟨by simp [newS, newS0, layS], fun i g hg _ => ?_, fun n T r e hT hr => ?_, fun n T c hT hc => ?_⟩, ⟨?_, fun i => ?_⟩, fun i x hx => ?_, by simp [newS, newS0, layS], by simp [newS, newS0, layS]; exact h⟩
 ·have := hd i _ hg; cases this
 ·rcases layS_tabs hT with hT | rfl
  ·cases hT
  ·cases hr
 ·rcases layS_tabs hT with hT | rfl
  ·cases hT
  ·rfl
 ·show (List.range most).reverse.Nodup
  unfold List.Nodup
  rw [List.pairwise_reverse]
  exact List.nodup_range.imp (fun h e => h e.symm)
 ·show i ∈ (List.range most).reverse ↔ ∃ g, (List.replicate most ((0 : Int), false))[i]? = some (g, false)
  rw [List.mem_reverse, List.mem_range]
  constructor
  ·intro hi; exact ⟨0, by rw [List.getElem?_replicate, if_pos hi]⟩
  ·rintro ⟨g, e⟩
   have := (List.getElem?_eq_some_iff.1 e).1
   simpa using this
 ·have := hd i x hx
  subst this
  simp
def newLab (o : Lab) (n bc bp bS k : Nat) : Option Tag := if k < n then o k else if k = bS then some .store else if k = bp then some .spots else if k = bc then some .sch else none
theorem newS_good {L : List Comp} (hG : GoodSc L) : GoodC L := ⟨hG.len, fun q hq => by obtain ⟨d, e, h1, h4⟩ := hG.wide q hq; omega⟩
theorem sNew_spec {w : World} (hD : DeAt w) {a : Option Addr} {L : List Comp} {cp : Nat} {ra : Option Addr} {rc : Nat} (hs : SlIs w a L.length 7 (L.flatMap Comp.cells)) (hG : GoodSc L) {most : Nat} (hm : most ≤ 64) :
  Meets Tryz.prog 8 #[scV a L.length cp (.slice ra 0 rc), .int .i64 most] w fun v w' => ∃ b, v = .tuple #[ptrV b, .nilIface] ∧ ∃ o p, StoreP o w' b p (newS L most) ∧ (∀ k, k < w.heap.size → o k = none) ∧ (∀ k, w'.heap.size ≤ k → o k = none) ∧ Same w w' := by
 have hl := hG.len
 rw [scV]
 refine f8_ok ?_
 unfold f8
 refine knew_of fun w2 h2 hs2 hb2 => ?_
 have hb2 : blk w2 w.heap.size = some (.cells #[.slice a L.length cp, .slice ra 0 rc] 33) := hb2
 refine kldN_at hb2 rfl (by omega) ?_
 have hck := check_spec (ra := ra) (rc := rc) (cp := cp) (hs.same h2) hG
 rw [scV] at hck
 refine kcall_of hck ?_
 rintro v w5 ⟨rfl, h5⟩
 have hb5 := h5.get hb2 (fun h => h)
 have m5 := h2.trans h5
 rw [keq_nil_nil' ifErr]
 refine kB_at ?_
 refine kIf_F rfl ?_
 unfold f8_0
 refine kcall_of (rNew_spec (fun _ => none) w5 most hm) ?_
 rintro v w11 ⟨bR, o1, rfl, hl1, hR, h11, hr1, hbR⟩
 have hb11 := h11.get hb5 (fun h => h)
 have m11 := m5.trans h11
 have hRl := hR.1
 refine kext_at rfl ?_
 refine kext_at rfl ?_
 rw [keq_nil_nil' ifErr]
 refine kB_at ?_
 refine kIf_F rfl ?_
 unfold f8_1
 refine kfld_of ?_
 refine kld_at hb11 rfl ?_
 refine klen_at ?_
 have ho1 : ∀ k t, cutL o1 w11.heap.size k = some t → ¬ atlasTag t := fun k t e et => by
  unfold cutL at e
  split at e
  ·rcases Nat.lt_or_ge k w5.heap.size with hk | hk
   ·rw [hl1 k hk] at e; cases e
   ·obtain ⟨t', e1, e2⟩ := hr1 k hk
    rw [e] at e1; cases e1
    exact tag_roll_atlas e2 et
  ·cases e
 refine kcall_of (newAt_spec (cutL o1 w11.heap.size) ho1 w11 L.length hl) ?_
 rintro v w23 ⟨bA, o2, rfl, hl2, hA, h23⟩
 have hb23 := h23.get hb11 (fun h => h)
 have m23 := m11.trans h23
 have hR1 : RollAt (cutL o1 w11.heap.size) w11 bR _ _ := hR.frame (Mod.refl (fun _ => False) _) (fun _ _ _ _ h => h) (LabEq.cut w11 o1)
 have hR2 := hR1.frame h23 (fun _ _ _ _ h => h) hl2
 have hsz5 := m5.size
 have hsz11 := h11.size
 have hsz23 := h23.size
 have ho2 : ∀ k, k < w.heap.size → o2 k = none := fun k hk => by
  rw [hl2 k (by omega)]
  unfold cutL
  rw [if_pos (by omega), hl1 k (by omega)]
 have hDlt := hD.lt
 refine kext_at rfl ?_
 refine kext_at rfl ?_
 rw [keq_nil_nil' ifErr]
 refine kB_at ?_
 refine kIf_F rfl ?_
 have fin : ∀ (bsc : Nat) (wy : World) (ca : Option Addr) (cc : Nat) (rv : Value), Same w23 wy → blk wy bsc = some (.cells #[.slice ca L.length cc, rv] 33) → SlIs wy ca L.length 7 (L.flatMap Comp.cells) → (∀ k f, ca = some ⟨k, f, none⟩ → w23.heap.size ≤ k ∧ k < wy.heap.size) → rv.oneCell' = true →
   f8_3 (.int .i64 most) (.pointer (some ⟨bR, 0, none⟩)) (ptrV bA) (.pointer (some ⟨bsc, 0, none⟩)) (fun v w' => ∃ b, v = .tuple #[ptrV b, .nilIface] ∧ ∃ o p, StoreP o w' b p (newS L most) ∧ (∀ k, k < w.heap.size → o k = none) ∧ (∀ k, w'.heap.size ≤ k → o k = none) ∧ Same w w') wy := by
  intro bsc wy ca cc rv hwy hbsc hca hcf hrv
  have hszy := hwy.size
  unfold f8_3
  have hbscd : blk wy.drew bsc = _ := hbsc
  refine kldN_at hbscd rfl (by omega) ?_
  refine kG_of rfl ?_
  refine kmk_of (by omega) (by omega) fun w44 h44 hs44 hb44 => ?_
  have hbsc44 := h44.get hbscd (fun h => h)
  refine kG_of (kldN_at hbsc44 rfl (by omega) ⟨rfl, rfl⟩) ?_
  refine kbld_of (cs := [.pointer (some ⟨bR, 0, none⟩), .slice ca L.length cc, rv, ptrV bA, .slice none 0 0, .slice (some ⟨wy.heap.size, 0, none⟩) most most]) rfl ?_
  refine knew_of fun w47 h47 hs47 hb47 => ?_
  have hb47 : blk w47 w44.heap.size = some (.cells #[.pointer (some ⟨bR, 0, none⟩), .slice ca L.length cc, rv, ptrV bA, .slice none 0 0, .slice (some ⟨wy.heap.size, 0, none⟩) most most] 112) := hb47
  have hs44 : w44.heap.size = wy.heap.size + 1 := hs44
  have m47 : Same w23 w47 := ((hwy.trans (Mod.refl (fun _ => False) _).drew).trans h44).trans h47
  have hz : zrow (Value.agg #[.int .i64 0, .int .i64 0]).cells.toList most = (List.replicate most ((0 : Nat), (0 : Nat))).flatMap spotC := zrow_rep (F := spotC) ((0 : Nat), (0 : Nat)) most
  rw [hz] at hb44
  have hb44 : blk w44 wy.heap.size = some (.cells ((List.replicate most ((0 : Nat), (0 : Nat))).flatMap spotC).toArray 120) := hb44
  have hOs := Own.blk (h47.get hb44 (fun h => h)) (n := most) (sz := 2) (by rw [List.size_toArray, flat_len spotC 2 (fun _ => rfl), List.length_replicate]) (by simp [maxLen]; omega)
  rw [List.toList_toArray] at hOs
  generalize hbcB : (match ca with | some x => x.block | none => 0) = bcB
  have hlo : LabEq w23 o2 (newLab o2 w23.heap.size bcB wy.heap.size w44.heap.size) := fun k hk => by unfold newLab; rw [if_pos hk]
  have hl47 : newLab o2 w23.heap.size bcB wy.heap.size w44.heap.size w44.heap.size = some .store := by unfold newLab; rw [if_neg (by omega), if_pos rfl]
  have hlsp : newLab o2 w23.heap.size bcB wy.heap.size w44.heap.size wy.heap.size = some .spots := by unfold newLab; rw [if_neg (by omega), if_neg (by omega), if_pos rfl]
  have hP : StoreP (newLab o2 w23.heap.size bcB wy.heap.size w44.heap.size) w47 w44.heap.size ⟨bR, bA, ca, cc, rv, .slice none 0 0, .slice (some ⟨wy.heap.size, 0, none⟩) most most, fun _ => 0, fun _ _ => 0⟩ (newS0 L most) := {
   lab := hl47
   good := newS_good hG
   tle := by simp [newS0]
   mle := by simp [newS0]
   sle := by simp [newS0]; exact hm
   here := hb47
   roll := hR2.frame m47 (fun _ _ _ _ h => h) hlo
   atlas := hA.frame m47 (fun _ _ _ _ h => h) hlo
   sch := (hca.same (Mod.refl (fun _ => False) _).drew).same (h44.trans h47)
   schl := fun k f e => by
    have e : ca = some ⟨k, f, none⟩ := e
    obtain ⟨k1, k2⟩ := hcf k f e
    have hk : k = bcB := by rw [← hbcB, e]
    refine ⟨?_, by omega⟩
    unfold newLab
    rw [if_neg (by omega), if_neg (by omega), if_neg (by omega), if_pos hk]
   tabs := Own.nil _ _
   tabsl := fun k e => by obtain ⟨_, _, _, e⟩ := e; cases e
   spots := hOs
   spotsl := fun k e => by obtain ⟨_, _, _, e⟩ := e; cases e; exact hlsp
   tab := fun i hi => by simp [newS0] at hi }
  have hDn : newLab o2 w23.heap.size bcB wy.heap.size w44.heap.size 9 = none := by
   unfold newLab
   rw [if_pos (by omega)]
   exact ho2 _ (by omega)
  have h47' : Same w w47 := m23.trans m47
  refine kcall_of (sLay_spec (hD.same h47') hP hDn) ?_
  rintro v w49 ⟨rfl, o4, p4, hl4, hP4, hm4, hc4⟩
  have hn : ∀ k, k < w.heap.size → newLab o2 w23.heap.size bcB wy.heap.size w44.heap.size k = none := fun k hk => by
   unfold newLab
   rw [if_pos (by omega)]
   exact ho2 k hk
  have hsz47 := h47'.size
  refine ⟨w44.heap.size, rfl, o4, p4, hP4, fun k hk => by rw [hl4 k (by omega)]; exact hn k hk, hc4, h47'.trans' (hm4.mono fun k _ ⟨t, e1, _⟩ => .inr ?_)⟩
  rcases Nat.lt_or_ge k w.heap.size with hk | hk
  ·rw [hn k hk] at e1; cases e1
  ·exact hk
 have hbd : blk w23.drew w.heap.size = some (.cells #[.slice a L.length cp, .slice ra 0 rc] 33) := hb23
 have md : Same w23 w23.drew := (Mod.refl (fun _ => False) _).drew
 have hsd := (hs.same m23).same md
 unfold f8_2
 refine ⟨?_, ?_⟩
 ·refine kfld_of ?_
  refine kld_at hbd rfl ?_
  refine kG_of rfl ?_
  refine kcall_of (cloneC_spec hsd (by omega)) ?_
  rintro v w33 ⟨hO, h33, hf⟩
  obtain ⟨ca, cn, cc, rfl, hcs, _⟩ := hO.is
  have hcn : cn = L.length := by
   have := hcs.1
   rw [flat_len Comp.cells 7 (fun _ => rfl)] at this
   omega
  subst hcn
  have hb33 := h33.get hbd (fun h => h)
  have hfk : ∀ k f, ca = some ⟨k, f, none⟩ → w23.heap.size ≤ k ∧ k < w33.heap.size := fun k f e => by
   have hv : vblk (.slice ca L.length cc) k := ⟨f, _, _, by rw [e]⟩
   exact ⟨hf k hv, hO.vblk_lt hv⟩
  refine ⟨?_, ?_⟩
  ·refine kfld_of ?_
   refine kld_at hb33 rfl ?_
   refine kG_of rfl ?_
   refine kG_of (kld_at hbd rfl ⟨rfl, rfl⟩) ?_
   refine kcall_of cloneR_spec ?_
   rintro v w37 ⟨⟨a', n', c', rfl⟩, h37⟩
   refine knew_of fun w39 h39 hs39 hb39 => ?_
   have hb39' := h39.get (h37.get hb33 (fun h => h)) (fun h => h)
   refine kG_of (kld_at hb39' rfl ⟨rfl, rfl⟩) ?_
   refine kG_of (kld_at hb39' rfl ⟨rfl, rfl⟩) ?_
   refine kbld_of (cs := [.slice ca L.length cc, .slice a' n' c']) rfl ?_
   refine kst_of (vs := [.slice ca L.length cc, .slice a' n' c']) hb39 rfl rfl rfl (by simp) (by simp) fun w41 h41 hs41 hb41 => ?_
   have m41 : Same w33 w41 := (h37.trans h39).trans' (h41.mono fun k _ e => .inr (by have := h37.size; omega))
   exact fin _ w41 ca cc _ ((md.trans h33).trans m41) hb41 (hcs.same m41) (fun k f e => by have := hfk k f e; have := m41.size; omega) rfl
  ·refine knew_of fun w39 h39 hs39 hb39 => ?_
   have hb39' := h39.get hb33 (fun h => h)
   refine kG_of (kld_at hb39' rfl ⟨rfl, rfl⟩) ?_
   refine kfld_of ?_
   refine kld_at hb39' rfl ?_
   refine kG_of rfl ?_
   refine kG_of (kld_at hb33 rfl ⟨rfl, rfl⟩) ?_
   refine kG_of (kld_at hbd rfl ⟨rfl, rfl⟩) ?_
   refine kcall_of cloneR_spec ?_
   rintro v w37 ⟨⟨a', n', c', rfl⟩, h37⟩
   refine kbld_of (cs := [.slice ca L.length cc, .slice a' n' c']) rfl ?_
   refine kst_of (vs := [.slice ca L.length cc, .slice a' n' c']) (h37.get hb39 (fun h => h)) rfl rfl rfl (by simp) (by simp) fun w41 h41 hs41 hb41 => ?_
   have m41 : Same w33 w41 := (h39.trans h37).trans' (h41.mono fun k _ e => .inr (by omega))
   exact fin _ w41 ca cc _ ((md.trans h33).trans m41) hb41 (hcs.same m41) (fun k f e => by have := hfk k f e; have := m41.size; omega) rfl
 ·refine knew_of fun w39 h39 hs39 hb39 => ?_
  have hb39' := h39.get hbd (fun h => h)
  refine kfld_of ?_
  refine kld_at hb39' rfl ?_
  refine kG_of rfl ?_
  refine kG_of (kld_at hbd rfl ⟨rfl, rfl⟩) ?_
  refine kcall_of (cloneC_spec (hsd.same h39) (by omega)) ?_
  rintro v w33 ⟨hO, h33, hf⟩
  obtain ⟨ca, cn, cc, rfl, hcs, _⟩ := hO.is
  have hcn : cn = L.length := by
   have := hcs.1
   rw [flat_len Comp.cells 7 (fun _ => rfl)] at this
   omega
  subst hcn
  have hb33 := h33.get hb39' (fun h => h)
  have hfk : ∀ k f, ca = some ⟨k, f, none⟩ → w23.heap.size ≤ k ∧ k < w33.heap.size := fun k f e => by
   have hv : vblk (.slice ca L.length cc) k := ⟨f, _, _, by rw [e]⟩
   have h1 := hf k hv
   have h2 : w23.drew.heap.size = w23.heap.size := rfl
   exact ⟨by omega, hO.vblk_lt hv⟩
  refine kfld_of ?_
  refine kld_at hb33 rfl ?_
  refine kG_of rfl ?_
  refine kG_of (kld_at hb39' rfl ⟨rfl, rfl⟩) ?_
  refine kG_of (kld_at hbd rfl ⟨rfl, rfl⟩) ?_
  refine kcall_of cloneR_spec ?_
  rintro v w37 ⟨⟨a', n', c', rfl⟩, h37⟩
  refine kbld_of (cs := [.slice ca L.length cc, .slice a' n' c']) rfl ?_
  refine kst_of (vs := [.slice ca L.length cc, .slice a' n' c']) (h37.get (h33.get hb39 (fun h => h)) (fun h => h)) rfl rfl rfl (by simp) (by simp) fun w41 h41 hs41 hb41 => ?_
  have m41 : Same w23 w41 := (((md.trans h39).trans h33).trans h37).trans' (h41.mono fun k _ e => .inr (by have h2 : w23.drew.heap.size = w23.heap.size := rfl; omega))
  have m33 : Mod (fun k => k = w23.heap.size) w33 w41 := (Mod.of_same h37).trans h41
  refine fin _ w41 ca cc _ m41 hb41 (hcs.mod m33 fun k f e ek => ?_) (fun k f e => by have := hfk k f e; have := m33.size; omega) rfl
  have h1 := hf k ⟨f, _, _, by rw [e]⟩
  have h2 : w23.drew.heap.size = w23.heap.size := rfl
  omega
end
section
attribute [local irreducible] kO kB kStr kInt kN kG kIf kfld kld kldN kst knew kmap kbld kbldS kext kcnv klenStr klen kcap kprt kprtN kbool kint kstr keq kun ksl kix kiv kta kmk kmm ksem ksemU kextf kcallV kcallM kcall kL
structure Cur (w0 : World) (o : Lab) (w : World) (b : Nat) (p : Ptrs) (S : SM) (t : Nat) : Prop where
 sp : StoreP o w b p S
 gs : GS S t
 lo : ∀ k, k < w0.heap.size → o k = none
 hi : ∀ k, w.heap.size ≤ k → o k = none
 same : Same w0 w
theorem Cur.loc {w0 : World} {o : Lab} {w w2 : World} {b : Nat} {p : Ptrs} {S : SM} {t : Nat} (h : Cur w0 o w b p S t) (m : Same w w2) : Cur w0 o w2 b p S t :=
 ⟨h.sp.same m, h.gs, h.lo, fun k hk => h.hi k (Nat.le_trans m.size hk), h.same.trans m⟩
theorem Cur.turn {w0 : World} {o : Lab} {w w' : World} {b : Nat} {p : Ptrs} {S S' : SM} {t t' : Nat} (h : Cur w0 o w b p S t) (T : Turned o w b S' w') (hG : GS S' t') : ∃ o' p', Cur w0 o' w' b p' S' t' ∧ LabEq w o o' ∧ Mod (fun k => o k ≠ none) w w' := by
 obtain ⟨o', p', hl, hP, hm, hc⟩ := T
 have hs := h.same.size
 have hm' : Mod (fun k => o k ≠ none) w w' := hm.mono fun k _ ⟨t, e, _⟩ => by rw [e]; simp
 refine ⟨o', p', ⟨hP, hG, fun k hk => by rw [hl k (by omega)]; exact h.lo k hk, hc, h.same.trans' (hm'.mono fun k _ e => .inr ?_)⟩, hl, hm'⟩
 rcases Nat.lt_or_ge k w0.heap.size with hk | hk
 ·exact absurd (h.lo k hk) e
 ·exact hk
theorem Just.len {L : List (Int × Int)} {P : Nat → Int → Prop} (h : Just L P) {l : List (Int × Int)} (hn : l.Nodup) (hl : ∀ (i : Nat) (g : Int), ((i : Int), g) ∈ l ↔ P i g) (hp : ∀ e ∈ l, 0 ≤ e.1) : L.length = l.length := by
 refine ((List.perm_ext_iff_of_nodup h.1 hn).2 fun e => ?_).length_eq
 rw [h.2.2 e]
 constructor
 ·rintro ⟨i, g, rfl, hP⟩; exact (hl i g).2 hP
 ·intro he
  have h0 := hp e he
  refine ⟨e.1.toNat, e.2, ?_, ?_⟩
  ·rw [Int.toNat_of_nonneg h0]
  ·rw [← hl, Int.toNat_of_nonneg h0]; exact he
end
section

end
section
attribute [local irreducible] kO kB kStr kInt kN kG kIf kfld kld kldN kst knew kmap kbld kbldS kext kcnv klenStr klen kcap kprt kprtN kbool kint kstr keq kun ksl kix kiv kta kmk kmm ksem ksemU kextf kcallV kcallM kcall kL
deriving instance DecidableEq for Part
theorem wf_i64 {n : Int} (h : I64 n) : (Lit.int .i64 n).wf = true := by
 simp [Lit.wf, IntKind.min, IntKind.max, IntKind.signed, IntKind.bits]
 exact h
theorem cellsInt : Tryz.prog.cellsOf 3 = 1 := by kernel_rfl
theorem cellsArr : Tryz.prog.cellsOf 45 = 4 := by kernel_rfl
theorem cellsPart : Tryz.prog.cellsOf 47 = 6 := by kernel_rfl
theorem kl_int {n : Int} (h : I64 n) (d : Nat) : Tryz.prog.keyLits (d + 1) 3 [.int .i64 n] = some [.int .i64 n] := by
 unfold Program.keyLits
 simp only [Tryz.underlying3]
 rw [if_pos ⟨trivial, wf_i64 h⟩]
theorem kl_arr {a b c e : Int} (h1 : I64 a) (h2 : I64 b) (h3 : I64 c) (h4 : I64 e) (d : Nat) :
  Tryz.prog.keyLits (d + 2) 45 [.int .i64 a, .int .i64 b, .int .i64 c, .int .i64 e] = some [.int .i64 a, .int .i64 b, .int .i64 c, .int .i64 e] := by
 unfold Program.keyLits
 simp only [Tryz.underlying45, cellsInt, cellsArr]
 rw [if_pos (by rfl), show List.range 4 = [0, 1, 2, 3] from rfl]
 simp [kl_int h1, kl_int h2, kl_int h3, kl_int h4]
theorem kl_part {p : Part} (h : p.ok) (d : Nat) :
  Tryz.prog.keyLits (d + 3) 47 p.cells = some [.int .i64 p.comp, .int .i64 p.v0, .int .i64 p.v1, .int .i64 p.v2, .int .i64 p.v3, .int .i64 p.tick] := by
 obtain ⟨h1, h2, h3, h4, h5, h6⟩ := h
 unfold Program.keyLits
 simp only [Tryz.underlying47, cellsPart]
 rw [if_pos ⟨by rfl, by kernel_rfl⟩]
 simp [cellsInt, cellsArr, Part.cells, kl_int h1, kl_int h6, kl_arr h2 h3 h4 h5]
theorem keyPart : Tryz.prog.keyTypeAt 10 47 = true := by kernel_rfl
theorem guardPart : Tryz.prog.eqGuardType Tryz.prog.depth 47 = false := by kernel_rfl
theorem formPart (p : Part) : Value.formed Tryz.prog 47 (.agg p.cells.toArray) = true := by
 unfold Value.formed
 simp only [Tryz.underlying47, cellsPart]
 rfl
end
section
attribute [local irreducible] kO kB kStr kInt kN kG kIf kfld kld kldN kst knew kmap kbld kbldS kext kcnv klenStr klen kcap kprt kprtN kbool kint kstr keq kun ksl kix kiv kta kmk kmm ksem ksemU kextf kcallV kcallM kcall kL
def pa (c v : Int) : Part := ⟨c, v, 0, 0, 0, 0⟩
def l1 : List Part := [pa 1 0, pa 0 5]
def l2 : List Part := [pa 0 0, pa 1 0]
end
section
attribute [local irreducible] kO kB kStr kInt kN kG kIf kfld kld kldN kst knew kmap kbld kbldS kext kcnv klenStr klen kcap kprt kprtN kbool kint kstr keq kun ksl kix kiv kta kmk kmm ksem ksemU kextf kcallV kcallM kcall kL
end
section
attribute [local irreducible] kO kB kStr kInt kN kG kIf kfld kld kldN kst knew kmap kbld kbldS kext kcnv klenStr klen kcap kprt kprtN kbool kint kstr keq kun ksl kix kiv kta kmk kmm ksem ksemU kextf kcallV kcallM kcall kL
end
section
attribute [local irreducible] kO kB kStr kInt kN kG kIf kfld kld kldN kst knew kmap kbld kbldS kext kcnv klenStr klen kcap kprt kprtN kbool kint kstr keq kun ksl kix kiv kta kmk kmm ksem ksemU kextf kcallV kcallM kcall kL
end
section
attribute [local irreducible] kO kB kStr kInt kN kG kIf kfld kld kldN kst knew kmap kbld kbldS kext kcnv klenStr klen kcap kprt kprtN kbool kint kstr keq kun ksl kix kiv kta kmk kmm ksem ksemU kextf kcallV kcallM kcall kL
theorem with_turns {w : World} {bc : Nat} {q : Part} (hb : blk w bc = some (.cells q.cells.toArray 47)) {L : List Part} (hlen : L.length ≤ 1000000) :
  Turns w bc 60 #[.pointer (some ⟨bc, 0, none⟩)] L (L ++ [q]) := by
 intro w1 sv hsz hbc hv hO
 show Meets Tryz.prog 60 #[sv, .pointer (some ⟨bc, 0, none⟩)] w1 _
 refine f60_ok ?_
 unfold f60
 refine kldN_at (cs := q.cells) (hbc.trans hb) rfl (by omega) ?_
 refine kbldS_of (cs := q.cells) rfl fun w3 h3 hs3 hb3 => ?_
 refine ksem_append apParts (by omega) (hO.same h3) (Src.ofSlIs (hk := slPart_is.choose_spec) 1 (SlIs.blk hb3 rfl) (ones_parts [q])) (by rw [flat_len Part.cells 6 (fun _ => rfl)]; simp [Part.cells]; omega) (by rw [flat_len Part.cells 6 (fun _ => rfl)]; simp [Part.cells]; omega) ?_
 intro v' w' ho hm hf
 have h3s := h3.size
 refine ⟨?_, (Mod.of_same h3).trans hm, fun k hk => (hf k hk).imp id fun h => by omega⟩
 rw [List.flatMap_append]
 simpa using ho
theorem listF_with {m c : Nat} (hc : c < 32) : ∀ x, x ∈ listF (m ||| 2 ^ c) ↔ x ∈ listF m ∨ x = c := fun x => by
 rw [listF_mem, listF_mem, Nat.testBit_or, Nat.testBit_two_pow, Bool.or_eq_true, decide_eq_true_eq]
 constructor
 ·rintro ⟨h1, h2 | h2⟩
  ·exact .inl ⟨h1, h2⟩
  ·exact .inr h2.symm
 ·rintro (⟨h1, h2⟩ | rfl)
  ·exact ⟨h1, .inl h2⟩
  ·exact ⟨hc, .inr rfl⟩
def insP (q : Part) (L : List Part) : List Part := (L.filter fun x => decide (x.comp < q.comp)) ++ q :: (L.filter fun x => decide (q.comp < x.comp))
theorem insP_perm {q : Part} {L : List Part} (h : ∀ x ∈ L, x.comp ≠ q.comp) : (L ++ [q]).Perm (insP q L) := by
 have h1 : ((L.filter fun x => decide (x.comp < q.comp)) ++ (L.filter fun x => !decide (x.comp < q.comp))).Perm L := List.filter_append_perm _ _
 have h2 : (L.filter fun x => !decide (x.comp < q.comp)) = L.filter fun x => decide (q.comp < x.comp) := by
  apply List.filter_congr
  intro x hx
  have := h x hx
  simp only [← decide_not, decide_eq_decide]
  omega
 rw [h2] at h1
 unfold insP
 refine (h1.symm.append_right [q]).trans ?_
 rw [List.append_assoc]
 exact List.Perm.append_left _ (List.perm_append_comm.trans (by simp))
end
section
theorem insP_comps {L : List Part} {m c : Nat} (hc : c < 32) {q : Part} (hq : q.comp = (c : Int)) (hL : L.map (·.comp) = (listF m).map (fun c : Nat => (c : Int))) (hno : c ∉ listF m) : (insP q L).map (·.comp) = (listF (m ||| 2 ^ c)).map (fun c : Nat => (c : Int)) := by
 have hmem : ∀ x ∈ L, x.comp ≠ q.comp := fun x hx e => by
  have h1 : x.comp ∈ (listF m).map (fun c : Nat => (c : Int)) := hL ▸ List.mem_map.2 ⟨x, hx, rfl⟩
  obtain ⟨d, hd, e2⟩ := List.mem_map.1 h1
  have : d = c := by omega
  subst this; exact hno hd
 have hp := insP_perm hmem
 have hsL : L.Pairwise (fun x y => x.comp ≤ y.comp) := by
  have : (L.map (·.comp)).Pairwise (fun x y : Int => x ≤ y) := by
   rw [hL, List.pairwise_map]
   exact (listF_sorted m).imp (fun h => by omega)
  rwa [List.pairwise_map] at this
 refine List.Perm.eq_of_pairwise (le := fun x y : Int => x ≤ y) (fun a b _ _ h1 h2 => by omega) ?_ ?_ ?_
 ·rw [List.pairwise_map]
  unfold insP
  rw [List.pairwise_append]
  refine ⟨hsL.filter _, ?_, ?_⟩
  ·rw [List.pairwise_cons]
   refine ⟨fun x hx => ?_, hsL.filter _⟩
   have := (List.mem_filter.1 hx).2
   simp at this; omega
  ·intro x hx y hy
   have h1 := (List.mem_filter.1 hx).2
   simp at h1
   rcases List.mem_cons.1 hy with rfl | hy
   ·omega
   ·have h2 := (List.mem_filter.1 hy).2
    simp at h2; omega
 ·rw [List.pairwise_map]; exact (listF_sorted _).imp (fun h => by omega)
 ·have hn2 : ((listF (m ||| 2 ^ c)).map (fun c : Nat => (c : Int))).Nodup := by
   unfold List.Nodup
   rw [List.pairwise_map]
   exact (listF_nodup _).imp (fun h e => h (by omega))
  have hn1 : ((L ++ [q]).map (·.comp)).Nodup := by
   rw [List.map_append, hL, List.nodup_append]
   refine ⟨?_, by simp, ?_⟩
   ·unfold List.Nodup
    rw [List.pairwise_map]
    exact (listF_nodup _).imp (fun h e => h (by omega))
   ·intro a ha b hb e
    obtain ⟨d, hd, rfl⟩ := List.mem_map.1 ha
    simp at hb
    subst hb
    have : d = c := by omega
    subst this; exact hno hd
  refine (hp.map _).symm.trans ((List.perm_ext_iff_of_nodup hn1 hn2).2 fun a => ?_)
  rw [List.map_append, hL, List.mem_append]
  constructor
  ·rintro (h | h)
   ·obtain ⟨d, hd, rfl⟩ := List.mem_map.1 h
    exact List.mem_map.2 ⟨d, (listF_with hc d).2 (.inl hd), rfl⟩
   ·simp at h
    subst h
    exact List.mem_map.2 ⟨c, (listF_with hc c).2 (.inr rfl), hq.symm⟩
  ·intro h
   obtain ⟨d, hd, rfl⟩ := List.mem_map.1 h
   rcases (listF_with hc d).1 hd with h | rfl
   ·exact .inl (List.mem_map.2 ⟨d, h, rfl⟩)
   ·right; simp [hq]
end
section
attribute [local irreducible] kO kB kStr kInt kN kG kIf kfld kld kldN kst knew kmap kbld kbldS kext kcnv klenStr klen kcap kprt kprtN kbool kint kstr keq kun ksl kix kiv kta kmk kmm ksem ksemU kextf kcallV kcallM kcall kL
theorem insert_at {o : Lab} {w : World} (hD : DeAt w) {b : Nat} {p : Ptrs} {S : SM} (h : StoreP o w b p S) (hDo : o 9 = none) {t : Nat} (hG : GS S t) (ht : t ≤ 10000) {i : Nat} {g : Int} (hg : S.gens[i]? = some (g, true)) {q : Part} (hq : FitsP S.cs q) (hno : ∀ x ∈ partsOf S i, x.comp ≠ q.comp) :
  Meets Tryz.prog 13 #[ptrV b, entV i g, .agg q.cells.toArray] w fun v w' => v = .nilIface ∧ ∃ S', GS S' (t + 1) ∧ Went S S' (insP q (partsOf S i)) i ∧ Turned o w b S' w' := by
 obtain ⟨n, r, hsp, hn, hnm, hcol, hpe, hce, hmap, hfit, hmk, hmlt, hpc⟩ := parts_ok h hG hg
 obtain ⟨c, hqc, hcl, hqcl⟩ := id hq
 have hcs := h.good.1
 have hp16 : 2 ^ S.cs.length ≤ 2 ^ 16 := Nat.pow_le_pow_right (by omega) hcs
 have hml := hG.ml
 have hc32 : c < 32 := by omega
 have hcn : c ∉ listF S.masks[n] := fun hm => by
  have h1 : (c : Int) ∈ (partsOf S i).map (·.comp) := hmap ▸ List.mem_map.2 ⟨c, hm, rfl⟩
  obtain ⟨x, hx, e⟩ := List.mem_map.1 h1
  exact hno x hx (by rw [e, hqc])
 have hcm : c ∉ compsM S.masks n := hce ▸ hcn
 have hLc := insP_comps hc32 hqc hmap hcn
 have hperm := insP_perm hno
 have hlen : (partsOf S i).length ≤ 32 := by
  have := congrArg List.length hmap
  simp only [List.length_map] at this
  have := listF_len S.masks[n]
  omega
 have hfit' : ∀ x ∈ insP q (partsOf S i), FitsP S.cs x := fun x hx => by
  have := hperm.mem_iff.2 hx
  rcases List.mem_append.1 this with h | h
  ·exact hfit x h
  ·simp at h; subst h; exact hq
 have hm'lt : S.masks[n] ||| 2 ^ c < 2 ^ S.cs.length := Nat.or_lt_two_pow hmlt (Nat.pow_lt_pow_right (by omega) hcl)
 have hm' := comps_mask hcs hfit' hm'lt hLc
 rw [ptrV]
 refine f13_ok ?_
 unfold f13
 refine knew_of fun w2 hm2 hs2 hb2 => ?_
 have hb2 : blk w2 w.heap.size = some (.cells #[.int .i64 i, .int .i64 g] 37) := hb2
 refine knew_of fun w4 hm4 hs4 hb4 => ?_
 have hb4 : blk w4 w2.heap.size = some (.cells q.cells.toArray 47) := hb4
 have he4 := hm4.get hb2 (fun h => h)
 have m4 : Same w w4 := hm2.trans hm4
 have hP4 := h.cut m4
 have hcutn : ∀ k, w.heap.size ≤ k → cutL o w.heap.size k = none := fun k hk => cutL_none hk
 have hDo0 : cutL o w.heap.size 9 = none := by
  unfold cutL; split
  ·exact hDo
  ·rfl
 refine kldN_at he4 rfl (by omega) ?_
 refine kcall_of (sSpot_spec hP4 hg hsp) ?_
 rintro v w7 ⟨rfl, h7⟩
 refine kext_at rfl ?_
 refine kext_at rfl ?_
 refine knew_of fun w11 h11 hs11 hb11 => ?_
 refine kst_of (vs := [natV n, natV r]) hb11 rfl rfl rfl (by simp) (by simp) fun w12 h12 hs12 hb12 => ?_
 have hb12 : blk w12 w7.heap.size = some (.cells #[.int .i64 n, .int .i64 r] 120) := hb12
 have hsz7 := h7.size
 have m12 : Same w4 w12 := (h7.trans h11).trans' (h12.mono fun k _ e => .inr (by omega))
 rw [keq_nil_nil' ifErr]
 refine kB_at ?_
 refine kIf_F rfl ?_
 have hp12 := m12.get hb4 (fun h => h)
 refine kldN_at (cs := q.cells) hp12 rfl (by omega) ?_
 refine kcall_of (sFits_spec (hP4.same m12) q hq) ?_
 rintro v w17 ⟨rfl, h17⟩
 refine not_at ?_
 refine kB_at ?_
 refine kIf_F rfl ?_
 have m17 : Same w4 w17.drew := (m12.trans h17).trans (Mod.refl (fun _ => False) _).drew
 have hp17 : blk w17.drew w2.heap.size = _ := h17.get hp12 (fun h => h)
 have hb17 : blk w17.drew w7.heap.size = _ := h17.get hb12 (fun h => h)
 have he17 := m17.get he4 (fun h => h)
 have hsz17 : w12.heap.size ≤ w17.drew.heap.size := h17.size
 generalize w17.drew = wa at *
 have hPa := hP4.same m17
 have hba := hPa.here
 obtain ⟨ta, tc, et, hts⟩ := hPa.ptab hn
 rw [et] at hba
 have hT := hPa.tab n hn
 obtain ⟨q1, rv, bm, q2, q3, q4, q5, q6, q7⟩ := id hT
 refine kN_at ?_
 refine kfld_of ?_
 refine kld_at hba rfl ?_
 refine kG_of rfl ?_
 refine kfld_of ?_
 refine kld_at hb17 rfl ?_
 refine kG_of rfl ?_
 have ele : (List.range S.tabs.length).length = S.tabs.length := List.length_range
 refine kixld_of (F := fun i => ptrV (p.pt i)) (c := tc) (l := List.range S.tabs.length) hts (show n < (List.range S.tabs.length).length by omega) rfl ?_ |> fun h => by rw [ele] at h; exact h
 rw [List.getElem_range, ptrV]
 refine kG_of rfl ?_
 refine kN_at ?_
 refine kfld_of ?_
 refine kld_at q2 rfl ?_
 refine kG_of rfl ?_
 refine kfld_of ?_
 refine kld_of (v := .int .i64 c) hp17 (by simp [Part.cells, hqc]) ?_
 refine kG_of rfl ?_
 have hne : ∀ x ∈ compsM S.masks n, (x : Int) ≠ (c : Int) := fun x hx e => hcm (by
  have : x = c := by omega
  exact this ▸ hx)
 refine klook_of Tryz.underlying126 Tryz.underlying3 zCol q6 (r := none) (by rw [lk_none (fun c => ptrV (p.pc n c)) c _ hne]) ?_
 refine kG_of rfl ?_
 rw [keq_ptr_nil' ptCol]
 refine kG_of rfl ?_
 refine kB_at ?_
 refine kIf_F rfl ?_
 unfold f13_0
 refine kN_at ?_
 refine kfld_of ?_
 refine kld_at hba rfl ?_
 refine kG_of rfl ?_
 refine kfld_of ?_
 refine kld_at hb17 rfl ?_
 refine kG_of rfl ?_
 refine kfld_of ?_
 refine kld_of (v := .int .i64 c) hp17 (by simp [Part.cells, hqc]) ?_
 refine kG_of rfl ?_
 have hPd := hPa.same (Mod.refl (fun _ => False) wa).drew
 have hed : blk wa.drew w.heap.size = _ := he17
 have hpd : blk wa.drew w2.heap.size = _ := hp17
 have m17 : Same w4 wa.drew := m17.trans (Mod.refl (fun _ => False) wa).drew
 have hsz17 : w12.heap.size ≤ wa.drew.heap.size := hsz17
 generalize wa.drew = wd at *
 refine kcall_of (withAt_spec hPd.atlas n hnm c hcl (by omega)) ?_
 rintro v w32 ⟨rfl, o2, hl2, hA2, hm32⟩
 have hP32 := hPd.setAtlas (by omega) hl2 hm32 hA2
 refine kext_at rfl ?_
 refine kext_at rfl ?_
 rw [keq_nil_nil' ifErr]
 refine kB_at ?_
 refine kIf_F rfl ?_
 unfold f13_1
 have hsz2 := hm2.size
 have hsz4 := m4.size
 have hsz12 := m12.size
 have hsz32 := hm32.size
 have hFu : ∀ {T : Tag → Prop} k, w.heap.size ≤ k → ¬ FP (cutL o w.heap.size) T k := fun k hk ⟨t, e1, _⟩ => by rw [hcutn k hk] at e1; cases e1
 have he32 := hm32.get hed (hFu _ (by omega))
 have hp32 := hm32.get hpd (hFu _ (by omega))
 have hPc := hP32.frame (Mod.refl (fun _ => False) _) (fun _ _ _ h => h) (LabEq.cut w32 o2)
 have hu2 : ∀ k, w.heap.size ≤ k → k < wd.heap.size → cutL o2 w32.heap.size k = none := fun k h1 h2 => by
  unfold cutL; rw [if_pos (by omega), hl2 k h2]; exact hcutn k h1
 have hDlt := hD.lt
 have hDc : cutL o2 w32.heap.size 9 = none := by
  unfold cutL
  rw [if_pos (by omega), hl2 _ (by omega)]
  exact hDo0
 have hD32 : DeAt w32 := ((hD.same m4).same m17).mod hm32 fun ⟨t, e1, _⟩ => by rw [hDo0] at e1; cases e1
 refine kldN_at he32 rfl (by omega) ?_
 refine kcall_of (move_at hD32 hPc hDc hG h.tle ht hg (bc := w2.heap.size) (by omega) (hu2 _ (by omega) (by omega)) (with_turns hp32 (by omega)) hperm hLc hm' hfit') ?_
 rintro v w43 ⟨rfl, S', hG', hW, hTu⟩
 refine ⟨rfl, S', hG', hW, ?_⟩
 refine Turned.wrap m4 ?_ (Mod.refl _ _)
 refine Turned.seq (o1 := cutL o w.heap.size) (w1 := w4) (LabEq.refl _ _) (Mod.refl _ _) m17 ?_
 exact Turned.seq (o1 := cutL o2 w32.heap.size) (w1 := w32) (hl2.trans (LabEq.cut w32 o2) hm32.size) (hm32.mono fun k _ hk => FP.mono (fun _ _ => trivial) hk) (Mod.refl _ _) hTu
end
section
attribute [local irreducible] kO kB kStr kInt kN kG kIf kfld kld kldN kst knew kmap kbld kbldS kext kcnv klenStr klen kcap kprt kprtN kbool kint kstr keq kun ksl kix kiv kta kmk kmm ksem ksemU kextf kcallV kcallM kcall kL
def PtInv (w0 : World) (p : Ptrs) (S : SM) (n r rI bm : Nat) (hn : n < S.tabs.length) (j : Nat) (x : Value) (w : World) : Prop :=
 ∃ seen : List Nat, seen.length = j ∧ seen.Nodup ∧ (∀ i ∈ seen, i < (compsM S.masks n).length) ∧
  blk w rI = some (.mapIter (some bm) ((compsM S.masks n).map fun (c : Nat) => ((c : Int), ptrV (p.pc n c))).length seen.toArray ((compsM S.masks n).map fun (c : Nat) => ((c : Int), ptrV (p.pc n c))).length) ∧
  Own w x 6 (((seenL (compsM S.masks n) seen).map (partAt S.tabs[n] r)).flatMap Part.cells) ∧ (∀ k, vblk x k → rI < k) ∧ Mod (fun k => k = rI) w0 w
theorem parts_at {o : Lab} {w : World} {b : Nat} {p : Ptrs} {S : SM} (h : StoreP o w b p S) {t : Nat} (hG : GS S t) {i : Nat} {g : Int} (hg : S.gens[i]? = some (g, true)) :
  Meets Tryz.prog 17 #[ptrV b, entV i g] w fun v w' => ∃ sv, v = .tuple #[sv, .nilIface] ∧ Own w' sv 6 ((partsOf S i).flatMap Part.cells) ∧ (∀ k, vblk sv k → w.heap.size ≤ k) ∧ Same w w' := by
 obtain ⟨n, r, hsp, hn, hnm, hcol, hpe, hce, hmap, hfit, hmk, hmlt, hpc⟩ := parts_ok h hG hg
 have hc64 : (compsM S.masks n).length ≤ 32 := by rw [hce]; exact listF_len _
 rw [ptrV]
 refine f17_ok ?_
 unfold f17
 refine knew_of fun w2 hm2 hs2 hb2 => ?_
 have hb2 : blk w2 w.heap.size = some (.cells #[.int .i64 i, .int .i64 g] 37) := hb2
 refine kldN_at hb2 rfl (by omega) ?_
 refine kcall_of (sSpot_spec (h.same hm2) hg hsp) ?_
 rintro v w5 ⟨rfl, h5⟩
 refine kext_at rfl ?_
 refine kext_at rfl ?_
 refine knew_of fun w9 h9 hs9 hb9 => ?_
 refine kst_of (vs := [natV n, natV r]) hb9 rfl rfl rfl (by simp) (by simp) fun w10 h10 hs10 hb10 => ?_
 have hb10 : blk w10.drew w5.heap.size = some (.cells #[.int .i64 n, .int .i64 r] 120) := hb10
 have hsz5 := h5.size
 have m10 : Same w w10.drew := (((hm2.trans h5).trans h9).trans' (h10.mono fun k _ e => .inr (by omega))).trans (Mod.refl (fun _ => False) _).drew
 rw [keq_nil_nil' ifErr]
 refine kB_at ?_
 refine kIf_F rfl ?_
 unfold f17_0
 have hs10 : w10.drew.heap.size = w5.heap.size + 1 := by show w10.heap.size = _; omega
 generalize w10.drew = wa at *
 have hPa := h.same m10
 have hba := hPa.here
 obtain ⟨ta, tc, et, hts⟩ := hPa.ptab hn
 rw [et] at hba
 have hT := hPa.tab n hn
 obtain ⟨q1, rv, bm, q2, q3, q4, q5, q6, q7⟩ := id hT
 refine kN_at ?_
 refine kfld_of ?_
 refine kld_at hba rfl ?_
 refine kG_of rfl ?_
 refine kfld_of ?_
 refine kld_at hb10 rfl ?_
 refine kG_of rfl ?_
 have ele : (List.range S.tabs.length).length = S.tabs.length := List.length_range
 refine kixld_of (F := fun i => ptrV (p.pt i)) (c := tc) (l := List.range S.tabs.length) hts (show n < (List.range S.tabs.length).length by omega) rfl ?_ |> fun h => by rw [ele] at h; exact h
 rw [List.getElem_range, ptrV]
 refine kG_of rfl ?_
 refine kN_at ?_
 refine kfld_of ?_
 refine kld_at q2 rfl ?_
 refine kG_of rfl ?_
 refine krange_of Tryz.underlying126 q6 fun w21 h21 hs21 hb21 => ?_
 have hlr : p.pt n < wa.heap.size := lt_of_blk q2
 have hmsz := m10.size
 have hs21' : w21.heap.size = wa.heap.size + 1 := hs21
 refine kL1_of (compsM S.masks n).length (PtInv w21 p S n r wa.heap.size bm hn) ⟨lI1_0 ?_, fun x wr hx => ?_⟩
 ·exact ⟨[], rfl, List.nodup_nil, fun i hi => by simp at hi, hb21, Own.nil _ _, (fun k hk => by obtain ⟨_, _, _, e⟩ := hk; cases e), Mod.refl _ _⟩
 obtain ⟨j, hj, ⟨seen, hsl, hnd, hsb, hit, hOx, hfx, hmr⟩, hJ⟩ := lI1_step hx
 have hlt6 := lt_of_blk q6
 have q6r : MapIs wr bm .i64 _ := (q6.mod h21 (fun h => h)).mod hmr (fun e => by omega)
 have hmr0 : Same w wr := (m10.trans h21).trans' (hmr.mono fun k _ e => .inr (by omega))
 unfold f17_1
 refine knext_of hit q6r (fun hall => ?_) (fun ix hix hnix w2' hm2' hs2' hit2 => ?_)
 ·have hperm := seenL_perm hnd hsb (fun i hi => hall i (by simpa using hi))
  refine kext_at rfl ?_
  refine kB_at ?_
  refine kIf_F rfl ?_
  refine kcall_of (sorted_spec hOx (by simp [hperm.length_eq]; omega)) ?_
  rintro v w77 ⟨L', g1, g2, g3, g4⟩
  have hL' := sort_unique (compsM_sorted S.masks n) (f := partAt S.tabs[n] r) hpc (hperm.map _) g1 g2
  rw [hL'] at g3
  rw [hpe]
  exact ⟨x, rfl, g3, fun k hk => by have := hfx k hk; omega, hmr0.trans' (g4.mono fun k _ e => .inr (by have := hfx k e; omega))⟩
 ·have hixc : ix < (compsM S.masks n).length := by simpa using hix
  have hgi : ((compsM S.masks n).map fun (c : Nat) => ((c : Int), ptrV (p.pc n c)))[ix] = (((compsM S.masks n)[ix] : Int), ptrV (p.pc n (compsM S.masks n)[ix])) := by simp
  have hjl : j < (compsM S.masks n).length := by
   have hnd2 : (seen ++ [ix]).Nodup := List.nodup_append.2 ⟨hnd, by simp, fun a ha b hb e => by simp at hb; subst hb; subst e; exact hnix ha⟩
   have := List.Nodup.length_le_of_subset hnd2 (l₂ := List.range (compsM S.masks n).length) (fun a ha => by
    rcases List.mem_append.1 ha with h | h
    ·simpa using hsb a h
    ·simp at h; subst h; simpa using hixc)
   simp at this; omega
  refine kext_at rfl ?_
  refine kB_at ?_
  refine kIf_T rfl ?_
  unfold f17_2
  refine kentry_of hix hit2 (q6r.mod hm2' (fun e => by omega)) ?_
  rw [hgi]
  generalize hc : (compsM S.masks n)[ix] = c at *
  have hcm : c ∈ compsM S.masks n := hc ▸ List.getElem_mem hixc
  have hzr := hmr.size
  have hm02 : Same w w2' := hmr0.trans' (hm2'.mono fun k _ e => .inr (by omega))
  have hCol := ((h.same hm02).tab n hn).col hcm
  have hb2r : blk w2' w5.heap.size = some (.cells #[.int .i64 n, .int .i64 r] 120) := hm2'.get (hmr.get (h21.get hb10 (fun h => h)) (by omega)) (by omega)
  refine kext_at rfl ?_
  refine kfld_of ?_
  refine kld_at hb2r rfl ?_
  have hrc := hcol c hcm
  refine kcall_of (cRow_spec hCol hrc) ?_
  rintro v w31 ⟨rfl, hm31⟩
  refine kext_at rfl ?_
  refine kext_at rfl ?_
  refine knew_of fun w35 h35 hs35 hb35 => ?_
  refine kst_of (vs := ((S.tabs[n].col c)[r]).cells) hb35 rfl rfl rfl (by simp) (by simp [Part.cells]) fun w36 h36 hs36 hb36 => ?_
  have hb36 : blk w36 w31.heap.size = some (.cells ((S.tabs[n].col c)[r]).cells.toArray 47) := hb36
  rw [keq_nil_nil' ifErr]
  refine kB_at ?_
  refine kIf_F rfl ?_
  unfold f17_3
  refine kldN_at hb36 rfl (by omega) ?_
  refine kbldS_of (cs := ((S.tabs[n].col c)[r]).cells) rfl fun w41 h41 hs41 hb41 => ?_
  have hz2 := hm2'.size
  have hz31 := hm31.size
  have m41 : Same w2' w41 := (hm31.trans (h35.trans' (h36.mono fun k _ e => .inr (by omega)))).trans h41
  have hO41 : Own w41 x 6 _ := (hOx.mod hm2' (fun k hk e => by have := hfx k hk; omega)).same m41
  have hpl : (seenL (compsM S.masks n) seen).length = j := by simp [seenL, hsl]
  refine ksem_append apParts (by omega) hO41 (Src.ofSlIs (hk := slPart_is.choose_spec) 1 (SlIs.blk hb41 rfl) (ones_parts [(S.tabs[n].col c)[r]])) (by rw [flat_len Part.cells 6 (fun _ => rfl)]; simp [hpl, Part.cells]; omega) (by rw [flat_len Part.cells 6 (fun _ => rfl)]; simp [hpl, Part.cells]; omega) ?_
  intro v' w43 ho43 hm43 hf43
  have hit43 := hm43.get (m41.get hit2 (fun h => h)) (fun e => by have := hfx _ e; omega)
  refine hJ _ _ hjl ⟨seen ++ [ix], by simp [hsl], ?_, ?_, hit43, ?_, ?_, ?_⟩
  ·exact List.nodup_append.2 ⟨hnd, by simp, fun a ha b hb e => by simp at hb; subst hb; subst e; exact hnix ha⟩
  ·intro a ha
   rcases List.mem_append.1 ha with h | h
   ·exact hsb a h
   ·simp at h; subst h; exact hixc
  ·rw [seenL_snoc _ _ _ hixc, hc, List.map_append, List.flatMap_append]
   have e : ([c].map (partAt S.tabs[n] r)).flatMap Part.cells = ((S.tabs[n].col c)[r]).cells := by
    simp [partAt, List.getElem?_eq_getElem hrc]
   rw [e]
   exact ho43
  ·intro k hk
   rcases hf43 k hk with h | h
   ·exact hfx k h
   ·have := m41.size; omega
  ·have y3 : Mod (fun i => i = wa.heap.size ∨ w21.heap.size ≤ i) w41 w43 := hm43.mono fun k _ e => .inr (by have := hfx k e; omega)
   exact hmr.trans' ((hm2'.mono fun k _ e => .inl e).trans ((Mod.of_same m41).trans y3))
end
section
attribute [local irreducible] kO kB kStr kInt kN kG kIf kfld kld kldN kst knew kmap kbld kbldS kext kcnv klenStr klen kcap kprt kprtN kbool kint kstr keq kun ksl kix kiv kta kmk kmm ksem ksemU kextf kcallV kcallM kcall kL
theorem insert_twice {pr : Nat → Prop} {Sa : Nat → Addr} {o : Lab} {w : World} (hL : LaidP pr Sa w) (h9 : pr 9) {b : Nat} {p : Ptrs} {S : SM} (h : StoreP o w b p S) {t : Nat} (hG : GS S t) {i : Nat} {g : Int} (hg : S.gens[i]? = some (g, true)) {q : Part} (hq : FitsP S.cs q) {y : Part} (hy : y ∈ partsOf S i) (hyq : y.comp = q.comp) :
  Meets Tryz.prog 13 #[ptrV b, entV i g, .agg q.cells.toArray] w fun v w' => ErrX Sa 9 w.heap.size v w' ∧ Same w w' := by
 obtain ⟨n, r, hsp, hn, hnm, hcol, hpe, hce, hmap, hfit, hmk, hmlt, hpc⟩ := parts_ok h hG hg
 obtain ⟨c, hqc, hcl, hqcl⟩ := id hq
 have hcm : c ∈ compsM S.masks n := by
  rw [hpe] at hy
  obtain ⟨d, hd, rfl⟩ := List.mem_map.1 hy
  have := hpc d hd
  have : d = c := by omega
  subst this; exact hd
 rw [ptrV]
 refine f13_ok ?_
 unfold f13
 refine knew_of fun w2 hm2 hs2 hb2 => ?_
 have hb2 : blk w2 w.heap.size = some (.cells #[.int .i64 i, .int .i64 g] 37) := hb2
 refine knew_of fun w4 hm4 hs4 hb4 => ?_
 have hb4 : blk w4 w2.heap.size = some (.cells q.cells.toArray 47) := hb4
 have he4 := hm4.get hb2 (fun h => h)
 have m4 : Same w w4 := hm2.trans hm4
 have hP4 := h.cut m4
 have hcutn : ∀ k, w.heap.size ≤ k → cutL o w.heap.size k = none := fun k hk => cutL_none hk
 refine kldN_at he4 rfl (by omega) ?_
 refine kcall_of (sSpot_spec hP4 hg hsp) ?_
 rintro v w7 ⟨rfl, h7⟩
 refine kext_at rfl ?_
 refine kext_at rfl ?_
 refine knew_of fun w11 h11 hs11 hb11 => ?_
 refine kst_of (vs := [natV n, natV r]) hb11 rfl rfl rfl (by simp) (by simp) fun w12 h12 hs12 hb12 => ?_
 have hb12 : blk w12 w7.heap.size = some (.cells #[.int .i64 n, .int .i64 r] 120) := hb12
 have hsz7 := h7.size
 have m12 : Same w4 w12 := (h7.trans h11).trans' (h12.mono fun k _ e => .inr (by omega))
 rw [keq_nil_nil' ifErr]
 refine kB_at ?_
 refine kIf_F rfl ?_
 have hp12 := m12.get hb4 (fun h => h)
 refine kldN_at (cs := q.cells) hp12 rfl (by omega) ?_
 refine kcall_of (sFits_spec (hP4.same m12) q hq) ?_
 rintro v w17 ⟨rfl, h17⟩
 refine not_at ?_
 refine kB_at ?_
 refine kIf_F rfl ?_
 have m17 : Same w4 w17.drew := (m12.trans h17).trans (Mod.refl (fun _ => False) _).drew
 have hp17 : blk w17.drew w2.heap.size = _ := h17.get hp12 (fun h => h)
 have hb17 : blk w17.drew w7.heap.size = _ := h17.get hb12 (fun h => h)
 have he17 := m17.get he4 (fun h => h)
 have hsz17 : w12.heap.size ≤ w17.drew.heap.size := h17.size
 generalize w17.drew = wa at *
 have hPa := hP4.same m17
 have hba := hPa.here
 obtain ⟨ta, tc, et, hts⟩ := hPa.ptab hn
 rw [et] at hba
 have hT := hPa.tab n hn
 obtain ⟨q1, rv, bm, q2, q3, q4, q5, q6, q7⟩ := id hT
 refine kN_at ?_
 refine kfld_of ?_
 refine kld_at hba rfl ?_
 refine kG_of rfl ?_
 refine kfld_of ?_
 refine kld_at hb17 rfl ?_
 refine kG_of rfl ?_
 have ele : (List.range S.tabs.length).length = S.tabs.length := List.length_range
 refine kixld_of (F := fun i => ptrV (p.pt i)) (c := tc) (l := List.range S.tabs.length) hts (show n < (List.range S.tabs.length).length by omega) rfl ?_ |> fun h => by rw [ele] at h; exact h
 rw [List.getElem_range, ptrV]
 refine kG_of rfl ?_
 refine kN_at ?_
 refine kfld_of ?_
 refine kld_at q2 rfl ?_
 refine kG_of rfl ?_
 refine kfld_of ?_
 refine kld_of (v := .int .i64 c) hp17 (by simp [Part.cells, hqc]) ?_
 refine kG_of rfl ?_
 refine klook_of Tryz.underlying126 Tryz.underlying3 zCol q6 (r := some (_, _)) (by rw [lk_comps, if_pos hcm]) ?_
 refine kG_of rfl ?_
 simp -dsimp only [ptrV]
 rw [keq_ptr_nil' ptCol]
 refine kG_of rfl ?_
 refine kB_at ?_
 refine kIf_T rfl ?_
 have mz : Same w wa := m4.trans m17
 have hLz := hL.same mz
 refine kld_err hLz (k := 9) h9 rfl rfl ?_
 refine kcall_of (sWrong_spec (ErrX.sent Sa 9 wa.heap.size wa) (Nat.le_refl _)) ?_
 rintro v w26 ⟨hx, h26⟩
 exact ⟨hx.mono mz.size, mz.trans h26⟩
end
section
attribute [local irreducible] kO kB kStr kInt kN kG kIf kfld kld kldN kst knew kmap kbld kbldS kext kcnv klenStr klen kcap kprt kprtN kbool kint kstr keq kun ksl kix kiv kta kmk kmm ksem ksemU kextf kcallV kcallM kcall kL
theorem sRemove_err {Sa : Nat → Addr} {k : Nat} {w : World} {b : Nat} {idx gen c : Int}
  (h : ∀ w2, Same w w2 → Meets Tryz.prog 65 #[ptrV b, entV idx gen, .int .i64 c] w2 fun v w' => ∃ x, v = .tuple #[.pointer none, .int .i64 0, x] ∧ ErrX Sa k w2.heap.size x w' ∧ Same w2 w') :
  Meets Tryz.prog 14 #[ptrV b, entV idx gen, .int .i64 c] w fun v w' => ∃ x, v = .tuple #[zPartV, x] ∧ ErrX Sa k w.heap.size x w' ∧ Same w w' := by
 refine f14_ok ?_
 unfold f14
 refine knew_of fun w2 hm2 hs2 hb2 => ?_
 have hb2 : blk w2 w.heap.size = some (.cells #[.int .i64 idx, .int .i64 gen] 37) := hb2
 refine knew_of fun w4 hm4 hs4 hb4 => ?_
 have hb4 : blk w4 w2.heap.size = some (.cells #[.int .i64 c] 3) := hb4
 refine knew_of fun w6 hm6 hs6 hb6 => ?_
 have he6 := hm6.get (hm4.get hb2 (fun h => h)) (fun h => h)
 have hc6 := hm6.get hb4 (fun h => h)
 have m6 : Same w w6 := (hm2.trans hm4).trans hm6
 refine kldN_at he6 rfl (by omega) ?_
 refine kld_at hc6 rfl ?_
 refine kcall_of (sGet_err (Sa := Sa) (k := k) fun w2' m2' => h w2' (m6.trans m2')) ?_
 rintro v w10 ⟨x, rfl, hx, h10⟩
 have hz10 := h10.get hb6 (fun h => h)
 have hsz10 := h10.size
 obtain ⟨t, y, rfl⟩ := hx.if
 rw [zPartV]
 refine kext_at rfl ?_
 refine kext_at rfl ?_
 refine knew_of fun w14 h14 hs14 hb14 => ?_
 refine kst_of (vs := [.int .i64 0, .int .i64 0, .int .i64 0, .int .i64 0, .int .i64 0, .int .i64 0]) hb14 rfl rfl rfl (by simp) (by simp) fun w15 h15 hs15 hb15 => ?_
 have m15 : Same w10 w15 := h14.trans' (h15.mono fun k _ e => .inr (by omega))
 have hz15 := m15.get hz10 (fun h => h)
 rw [keq_if_nil' ifErr]
 refine kB_at ?_
 refine kIf_T rfl ?_
 refine kbld_of (cs := [.int .i64 0, .int .i64 0, .int .i64 0, .int .i64 0, .int .i64 0, .int .i64 0]) rfl ?_
 refine kst_of (vs := [.int .i64 0, .int .i64 0, .int .i64 0, .int .i64 0, .int .i64 0, .int .i64 0]) hz15 rfl rfl rfl (by simp) (by simp) fun w19 h19 hs19 hb19 => ?_
 have hb19 : blk w19 w4.heap.size = some (.cells #[.int .i64 0, .int .i64 0, .int .i64 0, .int .i64 0, .int .i64 0, .int .i64 0] 47) := hb19
 refine kldN_at hb19 rfl (by omega) ?_
 refine ⟨_, rfl, ((hx.same m15).mod h19 fun k h1 h2 e => by omega).mono (by omega), ((m6.trans h10).trans m15).trans' (h19.mono fun k _ e => .inr (by omega))⟩
end
section
attribute [local irreducible] kO kB kStr kInt kN kG kIf kfld kld kldN kst knew kmap kbld kbldS kext kcnv klenStr klen kcap kprt kprtN kbool kint kstr keq kun ksl kix kiv kta kmk kmm ksem ksemU kextf kcallV kcallM kcall kL
theorem keq_partN {p q : Part} (hp : p.ok) (hq : q.ok) {w : World} {K : Value → World → Prop} {cx cy : Bool} :
  keq Tryz.prog .neq 47 cx cy (.agg p.cells.toArray) (.agg q.cells.toArray) w K = K (.bool (!decide (p = q))) w := by
 obtain ⟨r, hr, hiff⟩ := run_equalIn_deep (P := Tryz.prog) 9990 10 47 keyPart w 3 3 (.agg p.cells.toArray) (.agg q.cells.toArray) _ _ (formPart p) (formPart q) (kl_part hp 0) (kl_part hq 0)
 have hr2 : r = decide (p = q) := by
  rw [Bool.eq_iff_iff, hiff, decide_eq_true_eq]
  cases p; cases q
  simp
 rw [hr2] at hr
 simp only [keq, eqW, semV, Sem.run_bind, run_eqGuard_agg w .neq 47 _ _ p.cells.toArray q.cells.toArray guardPart, Result.andThen_ok, run_neq_struct]
 rw [show (10000 : Nat) = 9990 + 10 from rfl, hr]
 rfl
end
section
attribute [local irreducible] kO kB kStr kInt kN kG kIf kfld kld kldN kst knew kmap kbld kbldS kext kcnv klenStr klen kcap kprt kprtN kbool kint kstr keq kun ksl kix kiv kta kmk kmm ksem ksemU kextf kcallV kcallM kcall kL
end
section
attribute [local irreducible] kO kB kStr kInt kN kG kIf kfld kld kldN kst knew kmap kbld kbldS kext kcnv klenStr klen kcap kprt kprtN kbool kint kstr keq kun ksl kix kiv kta kmk kmm ksem ksemU kextf kcallV kcallM kcall kL
theorem spawn_full {pr : Nat → Prop} {Sa : Nat → Addr} {o : Lab} {w : World} (hL : LaidP pr Sa w) (h6 : pr 6) {b : Nat} {p : Ptrs} {S : SM} (h : StoreP o w b p S) (hfree : S.free = [])
  {L : List Part} {a : Option Addr} {c : Nat} (hs : SlIs w a L.length 6 (L.flatMap Part.cells)) (hn : L.length ≤ 1000000) (hf : ∀ q ∈ L, FitsP S.cs q) (hnt : NoTwice L) :
  Meets Tryz.prog 10 #[ptrV b, .slice a L.length c] w fun v w' => ∃ x, v = .tuple #[entV 0 0, x] ∧ ErrX Sa 6 w.heap.size x w' ∧ Same w w' := by
 refine f10_ok ?_
 unfold f10
 refine knew_of fun w2 hm2 hs2 hb2 => ?_
 have hP2 := h.same hm2
 rw [ptrV]
 rw [keq_ptr_nil ptSto]
 refine kB_at ?_
 refine kIf_F rfl ?_
 unfold f10_0
 refine kcall_of (sGathered_spec hP2 (hs.same hm2) hn hf hnt) ?_
 rintro v w12 ⟨sv, L', rfl, hL1, hL2, hL3, h12, hf12⟩
 have m12 := hm2.trans h12
 have hP12 := hP2.same h12
 have hb12 := h12.get hb2 (fun h => h)
 refine kext_at rfl ?_
 refine kext_at rfl ?_
 refine kext_at rfl ?_
 rw [keq_nil_nil' ifErr]
 refine kB_at ?_
 refine kIf_F rfl ?_
 unfold f10_1
 have hh12 := hP12.here
 rw [ptrV] at hh12
 refine kN_at ?_
 refine kfld_of ?_
 refine kld_at hh12 rfl ?_
 have hR := hP12.roll
 rw [hfree] at hR
 refine kcall_of (rTakeFull_spec (hL.same m12) h6 hR) ?_
 rintro v w24 ⟨x, rfl, hx, h24⟩
 have hb24 := h24.get hb12 (fun h => h)
 refine kext_at rfl ?_
 refine kext_at rfl ?_
 refine knew_of fun w28 h28 hs28 hb28 => ?_
 refine kst_of (vs := [.int .i64 0, .int .i64 0]) hb28 rfl rfl rfl (by simp) (by simp) fun w29 h29 hs29 hb29 => ?_
 have m29 : Same w24 w29 := h28.trans' (h29.mono fun k _ e => .inr (by omega))
 have hx29 := hx.same m29
 have hb29 := m29.get hb24 (fun h => h)
 have hsz12 := m12.size
 have hsz24 := h24.size
 obtain ⟨t, y, rfl⟩ := hx.if
 rw [keq_if_nil' ifErr]
 refine kB_at ?_
 refine kIf_T rfl ?_
 refine kbld_of (cs := [.int .i64 0, .int .i64 0]) rfl ?_
 refine kcall_of (sWrong_spec hx29 (by have := m29.size; omega)) ?_
 rintro v w33 ⟨hx33, h33⟩
 refine kst_of (vs := [.int .i64 0, .int .i64 0]) (h33.get hb29 (fun h => h)) rfl rfl rfl (by simp) (by simp) fun w34 h34 hs34 hb34 => ?_
 have hb34 : blk w34 w.heap.size = some (.cells #[.int .i64 0, .int .i64 0] 37) := hb34
 have hs2' : w2.heap.size = w.heap.size + 1 := hs2
 have hz2 := h12.size
 refine kldN_at hb34 rfl (by omega) ?_
 exact ⟨_, rfl, (hx33.mod h34 fun k h1 h2 e => by omega).mono (by omega), ((m12.trans h24).trans (m29.trans h33)).trans' (h34.mono fun k _ e => .inr (by omega))⟩
theorem cellsEnt : Tryz.prog.cellsOf 37 = 2 := by kernel_rfl
theorem kl_ent {i g : Int} (h1 : I64 i) (h2 : I64 g) (d : Nat) : Tryz.prog.keyLits (d + 2) 37 [.int .i64 i, .int .i64 g] = some [.int .i64 i, .int .i64 g] := by
 unfold Program.keyLits
 simp only [Tryz.underlying37, cellsEnt]
 rw [if_pos ⟨by rfl, by kernel_rfl⟩]
 simp [cellsInt, kl_int h1, kl_int h2]
theorem keyEnt : Tryz.prog.keyTypeAt 10 37 = true := by kernel_rfl
theorem formEnt (i g : Int) : Value.formed Tryz.prog 37 (entV i g) = true := by
 unfold Value.formed entV
 simp only [Tryz.underlying37, cellsEnt]
 rfl
end
end Go.Proofs.YtmidldeaapdjoaaGreatDoor
namespace Go.Ev
open Go Go.RowKit
section
section
variable {α : Type} [DecidableEq α]
def entsG (F : α → Value) : Nat → List (α × Value) → List MapEntry
 | _, [] => []
 | i, (n, v) :: r => { key := F n, val := v, born := i } :: entsG F (i + 1) r
def lkG (n : α) : List (α × Value) → Option (Nat × Value)
 | [] => none
 | (m, v) :: r => if n = m then some (0, v) else (lkG n r).map fun x => (x.1 + 1, x.2)
def valG (n : α) (kv : List (α × Value)) : Option Value := (lkG n kv).map (·.2)
def putG (n : α) (v : Value) : List (α × Value) → List (α × Value)
 | [] => [(n, v)]
 | (m, u) :: r => if n = m then (n, v) :: r else (m, u) :: putG n v r
def MapG (F : α → Value) (w : World) (b : Nat) (kv : List (α × Value)) : Prop := blk w b = some (.map (entsG F 0 kv).toArray kv.length)
structure KeyT (P : Program) (kt : TypeId) (F : α → Value) : Prop where
 find : ∀ n kv w, (Instr.findKey kt (F n) (entsG F 0 kv)).run P w = .ok (lkG n kv) w
 check : ∀ e a w, (Instr.checkKey e 10000 kt (F a)).run P w = .ok () w
 stays : ∀ a, Instr.sameBits 10000 (F a) (F a) = true
theorem valG_put (n m : α) (v : Value) : ∀ kv : List (α × Value), valG n (putG m v kv) = if n = m then some v else valG n kv
 | [] => by
  by_cases h : n = m
  ·simp [valG, putG, lkG, h]
  ·simp [valG, putG, lkG, h]
 | (k, u) :: r => by
  have ih := valG_put n m v r
  unfold valG at ih ⊢
  simp only [putG, lkG]
  by_cases h1 : m = k
  ·subst h1
   rw [if_pos rfl]
   simp only [lkG]
   by_cases h2 : n = m <;> simp [h2]
  ·rw [if_neg h1]
   simp only [lkG]
   by_cases h2 : n = k
   ·have h3 : ¬ n = m := fun e => h1 (by rw [← e, h2])
    simp [h2]
    exact fun e => absurd e.symm h1
   ·simp only [h2, if_false, Option.map_map]
    have e1 : ((lkG n (putG m v r)).map ((fun x : Nat × Value => x.2) ∘ fun x => (x.1 + 1, x.2))) = (lkG n (putG m v r)).map (·.2) := by congr 1
    have e2 : ((lkG n r).map ((fun x : Nat × Value => x.2) ∘ fun x => (x.1 + 1, x.2))) = (lkG n r).map (·.2) := by congr 1
    rw [e1, e2]; exact ih
theorem lkG_none {n : α} : ∀ {kv : List (α × Value)}, lkG n kv = none ↔ n ∉ kv.map (·.1)
 | [] => by simp [lkG]
 | (m, v) :: r => by
  simp only [lkG, List.map_cons, List.mem_cons, not_or]
  by_cases h : n = m
  ·simp [h]
  ·simp [h, lkG_none (n := n) (kv := r)]
theorem lkG_some {n : α} : ∀ {kv : List (α × Value)} {i : Nat} {v : Value}, lkG n kv = some (i, v) → kv[i]? = some (n, v)
 | (m, u) :: r, i, v, h => by
  simp only [lkG] at h
  by_cases e : n = m
  ·rw [if_pos e] at h
   cases h
   simp [e]
  ·rw [if_neg e] at h
   obtain ⟨⟨j, u'⟩, h1, h2⟩ := Option.map_eq_some_iff.1 h
   cases h2
   simpa using lkG_some h1
theorem putG_keys (n : α) (v : Value) : ∀ kv : List (α × Value), (putG n v kv).map (·.1) = if n ∈ kv.map (·.1) then kv.map (·.1) else kv.map (·.1) ++ [n]
 | [] => by simp [putG]
 | (m, u) :: r => by
  simp only [putG]
  by_cases h : n = m
  ·simp [h]
  ·simp only [h, if_false, List.map_cons, List.mem_cons, false_or, putG_keys n v r]
   by_cases h2 : n ∈ r.map (·.1)
   ·simp [h2]
   ·simp [h2]
theorem putG_nodup {n : α} {v : Value} {kv : List (α × Value)} (h : (kv.map (·.1)).Nodup) : ((putG n v kv).map (·.1)).Nodup := by
 rw [putG_keys]
 split
 ·exact h
 ·rename_i hn
  exact List.nodup_append.2 ⟨h, by simp, fun a ha b hb e => by simp at hb; subst hb; subst e; exact hn ha⟩
variable {F : α → Value}
theorem putG_new {n : α} {v : Value} : ∀ {kv : List (α × Value)}, lkG n kv = none → putG n v kv = kv ++ [(n, v)]
 | [], _ => rfl
 | (m, u) :: r, h => by
  simp only [lkG] at h
  by_cases e : n = m
  ·rw [if_pos e] at h; cases h
  ·rw [if_neg e] at h
   simp only [putG, if_neg e]
   rw [putG_new (by simpa using h)]; rfl
theorem putG_old {n : α} {v u : Value} : ∀ {kv : List (α × Value)} {i : Nat}, lkG n kv = some (i, u) → putG n v kv = kv.set i (n, v)
 | (m, x) :: r, i, h => by
  simp only [lkG] at h
  by_cases e : n = m
  ·rw [if_pos e] at h
   cases h
   simp [putG, e]
  ·rw [if_neg e] at h
   obtain ⟨⟨j, u'⟩, h1, h2⟩ := Option.map_eq_some_iff.1 h
   cases h2
   simp only [putG, if_neg e]
   rw [putG_old h1]; rfl
section
variable {P : Program} {kt : TypeId}
theorem findAsking_ents (heq : ∀ a b w, (Op.equal kt (F a) (F b)).run P w = .ok (decide (a = b)) w) (n : α) (w : World) : ∀ (i j : Nat) (kv : List (α × Value)), (Instr.findAsking kt (F n) (entsG F i kv) j).run P w = .ok ((lkG n kv).map fun x => (j + x.1, x.2)) w
 | _, _, [] => by simp [entsG, Instr.findAsking, lkG]
 | i, j, (m, v) :: r => by
  simp only [entsG, Instr.findAsking, Sem.run_bind, heq, Result.andThen_ok, lkG]
  by_cases h : n = m
  ·subst h; simp
  ·simp only [h, decide_false, if_false, Bool.false_eq_true]
   rw [findAsking_ents heq n w (i + 1) (j + 1) r]
   cases lkG n r with
   | none => simp
   | some x => simp; omega
theorem KeyT.ofWide (hwide : (match P.underlying kt with | some (.array _ _) | some (.struct _) => true | _ => false) = true)
  (heq : ∀ a b w, (Op.equal kt (F a) (F b)).run P w = .ok (decide (a = b)) w) (hch : ∀ e a w, (Instr.checkKey e 10000 kt (F a)).run P w = .ok () w) (hst : ∀ a, Instr.sameBits 10000 (F a) (F a) = true) : KeyT P kt F where
 find n kv w := by
  rw [run_findKey_eq w hwide, findAsking_ents heq n w 0 0 kv]
  cases lkG n kv <;> simp
 check := hch
 stays := hst
theorem findNow_entsG (k : IntKind) (n : Int) : ∀ (i j : Nat) (kv : List (Int × Value)), Instr.findNow (.int k) (.int k n) (entsG (fun n => .int k n) i kv) j = some ((lkG n kv).map fun x => (j + x.1, x.2))
 | _, _, [] => by simp [entsG, Instr.findNow, lkG]
 | i, j, (m, v) :: r => by
  simp only [entsG, Instr.findNow, Instr.sameNow, if_true, lkG]
  by_cases h : n = m
  ·subst h; simp
  ·have hb : (n == m) = false := by simpa using h
   rw [hb]
   simp only [h, if_false]
   rw [findNow_entsG k n (i + 1) (j + 1) r]
   cases lkG n r with
   | none => simp
   | some x => simp; omega
theorem KeyT.int {k : IntKind} (hk : P.underlying kt = some (.int k)) : KeyT P kt (fun n : Int => Value.int k n) where
 find n kv w := by
  simp only [Instr.findKey, Sem.run_bind, run_underlying hk, Result.andThen_ok, findNow_entsG, Sem.run_pure]
  cases lkG n kv <;> simp
 check e a w := run_checkKey_int hk e a
 stays a := by simp [Instr.sameBits]
theorem keyStaysG (hK : KeyT P kt F) (n : α) (w : World) : (Instr.keyThatStays (F n) (F n)).run P w = .ok (F n) w := by
 simp [Instr.keyThatStays, hK.stays]
variable {w : World}
theorem MapG.mod {β : Type} {F : β → Value} {fp : Nat → Prop} {w' : World} {b : Nat} {kv : List (β × Value)} (h : MapG F w b kv) (hm : Mod fp w w') (hf : ¬ fp b) : MapG F w' b kv := hm.get h hf
theorem MapG.same {β : Type} {F : β → Value} {w' : World} {b : Nat} {kv : List (β × Value)} (h : MapG F w b kv) (hm : Same w w') : MapG F w' b kv := hm.get h fun h => h
end
end
end
end Go.Ev
namespace Go.Proofs.YtmidldeaapdjoaaGreatDoor
open Go Go.Ev
section
structure EK where
 i : Int
 g : Int
 hi : I64 i
 hg : I64 g
deriving instance DecidableEq for EK
def EK.v (x : EK) : Value := entV x.i x.g
theorem EK.ext {x y : EK} (h1 : x.i = y.i) (h2 : x.g = y.g) : x = y := by
 cases x; cases y; cases h1; cases h2; rfl
theorem wideEnt : (match Tryz.prog.underlying 37 with | some (.array _ _) | some (.struct _) => true | _ => false) = true := by rw [Tryz.underlying37]
theorem keyEK : KeyT Tryz.prog 37 EK.v := by
 refine KeyT.ofWide wideEnt (fun a b w => ?_) (fun e a w => ?_) (fun a => ?_)
 ·obtain ⟨r, hr, hiff⟩ := run_equalIn_deep (P := Tryz.prog) 9990 10 37 keyEnt w 2 2 a.v b.v _ _ (formEnt a.i a.g) (formEnt b.i b.g) (kl_ent a.hi a.hg 0) (kl_ent b.hi b.hg 0)
  have hr2 : r = decide (a = b) := by
   rw [Bool.eq_iff_iff, hiff, decide_eq_true_eq]
   constructor
   ·intro h
    simp at h
    exact EK.ext h.1 h.2
   ·rintro rfl; rfl
  rw [hr2] at hr
  exact hr
 ·exact run_checkKey_deep (P := Tryz.prog) e 9990 10 37 keyEnt w 2 a.v _ (formEnt a.i a.g) (kl_ent a.hi a.hg 0)
 ·simp [EK.v, entV, Instr.sameBits]
theorem keyInt : KeyT Tryz.prog 3 (fun n : Int => Value.int .i64 n) := KeyT.int Tryz.underlying3
end
section
def f74 (Q : PQ) (w : World) : Prop :=
 kmap w fun v1 w2 =>
 kmap w2 fun v3 w4 =>
 kbld [.map none, .map none, .slice none 0 0, .int .i64 0] [(0, 1, v1), (1, 1, v3), (3, 1, (.int .i64 1))] fun v5 =>
 knew (Value.cells v5) 225 w4 fun v6 w7 =>
 Q v6 w7
theorem f74_ok {Q : PQ} {w : World} (h : f74 Q w) : Meets Tryz.prog 74 #[] w Q :=
 sound' (c := Tryz.f74.body.get rfl) [] Tryz.func74 rfl rfl (args := []) rfl (by kernel_rfl) h
def f133 (x0 x1 x2 : Value) (Q : PQ) (w : World) : Prop :=
 knew (Value.cells x2) 37 w fun v1 w2 =>
 kN x0 <|
 kfld 2 x0 fun v3 =>
 kld v3 w2 fun v4 =>
 kcall Tryz.prog 157 #[v4, x1] w2 fun v5 w6 =>
 kext v5 0 fun v7 =>
 kext v5 1 fun v8 =>
 kN x0 <|
 kfld 2 x0 fun v9 =>
 kld v9 w6 fun v10 =>
 kbldS [.int .i64 0] 1 [(0, 1, x1)] 3 w6 fun v11 w12 =>
 kcall Tryz.prog 158 #[v10, v7, v11] w12 fun v13 w14 =>
 kN x0 <|
 kfld 2 x0 fun v15 =>
 kst 1 v15 v13 w14 fun w16 =>
 kN x0 <|
 kfld 0 x0 fun v17 =>
 kld v17 w16.drew fun v18 =>
 kG (w16.drew = w16.drew) <|
 kN x0 <|
 kfld 1 x0 fun v19 =>
 kld v19 w16.drew fun v20 =>
 kG (w16.drew = w16.drew) <|
 kldN 2 v1 w16.drew fun v21 =>
 kG (w16.drew = w16.drew) <|
 kldN 2 v1 w16.drew fun v22 =>
 kG (w16.drew = w16.drew) <|
 ksem Tryz.prog (Instr.mapEntry 222 v18 x1) w16.drew fun v23 w24 =>
 kG (kldN 2 v1 w24 fun v33 =>
 v33 = v22 ∧ w24 = w24) <|
 kG (kldN 2 v1 w24 fun v32 =>
 v32 = v21 ∧ w24 = w24) <|
 kext v23 1 fun v25 =>
 ksemU Tryz.prog (Instr.entryStore 222 v18 v25 v22) w24 fun _ w26 =>
 kG (kldN 2 v1 w26 fun v31 =>
 v31 = v21 ∧ w26 = w26) <|
 ksem Tryz.prog (Instr.mapEntry 223 v20 v21) w26 fun v27 w28 =>
 kext v27 1 fun v29 =>
 ksemU Tryz.prog (Instr.entryStore 223 v20 v29 x1) w28 fun _ w30 =>
 Q (.tuple #[]) w30
theorem f133_ok {x0 x1 x2 : Value} {Q : PQ} {w : World} (h : f133 x0 x1 x2 Q w) : Meets Tryz.prog 133 #[x0, x1, x2] w Q :=
 sound' (c := Tryz.f133.body.get rfl) [] Tryz.func133 rfl rfl (args := [x0, x1, x2]) rfl (by kernel_rfl) h
def f83_0 (x0 x3 : Value) (Q : PQ) (w : World) : Prop :=
 kN x0 <|
 kfld 3 x0 fun v22 =>
 kld v22 w fun v23 =>
 kN x0 <|
 kfld 3 x0 fun v24 =>
 kld v24 w fun v25 =>
 kint .i64 .add v25 (.int .i64 1) fun v26 =>
 kN x0 <|
 kfld 3 x0 fun v27 =>
 kst 1 v27 v26 w fun w28 =>
 kldN 2 x3 w28 fun v29 =>
 kcall Tryz.prog 133 #[x0, v23, v29] w28 fun v30 w31 =>
 Q (.tuple #[v23, .nilIface]) w31
def f83 (x0 x1 : Value) (Q : PQ) (w : World) : Prop :=
 knew (Value.cells x1) 37 w fun v1 w2 =>
 kldN 2 v1 w2 fun v3 =>
 kcall Tryz.prog 131 #[x0, v3] w2 fun v4 w5 =>
 kext v4 0 fun v6 =>
 kext v4 1 fun v7 =>
 keq Tryz.prog .eql 145 false true x0 (.pointer none) w5 fun v8 w9 =>
 kB v8 fun b34 => kIf b34
 (kld (.pointer (some ⟨2, 0, none⟩)) w9 fun v10 =>
 kcall Tryz.prog 132 #[v10] w9 fun v11 w12 =>
 Q (.tuple #[.int .i64 0, v11]) w12)
 (kB v7 fun b33 => kIf b33
 (kld (.pointer (some ⟨5, 0, none⟩)) w9 fun v13 =>
 kcall Tryz.prog 132 #[v13] w9 fun v14 w15 =>
 Q (.tuple #[.int .i64 0, v14]) w15)
 (kN x0 <|
 kfld 3 x0 fun v16 =>
 kld v16 w9 fun v17 =>
 kint .i64 .gtr v17 (.int .i64 1073741824) fun v18 =>
 kB v18 fun b32 => kIf b32
 (kld (.pointer (some ⟨0, 0, none⟩)) w9 fun v19 =>
 kcall Tryz.prog 132 #[v19] w9 fun v20 w21 =>
 Q (.tuple #[.int .i64 0, v20]) w21)
 (f83_0 x0 v1 Q w9)))
theorem f83_ok {x0 x1 : Value} {Q : PQ} {w : World} (h : f83 x0 x1 Q w) : Meets Tryz.prog 83 #[x0, x1] w Q :=
 sound' (c := Tryz.f83.body.get rfl) [] Tryz.func83 rfl rfl (args := [x0, x1]) rfl (by kernel_rfl) h
def f183_0 (x0 x1 x4 x6 : Value) (Q : PQ) (w : World) : Prop :=
 kN x0 <|
 kfld 2 x0 fun v25 =>
 kld v25 w fun v26 =>
 kcall Tryz.prog 157 #[v26, x1] w fun v27 w28 =>
 kext v27 0 fun v29 =>
 kext v27 1 fun v30 =>
 kN x0 <|
 kfld 2 x0 fun v31 =>
 kld v31 w28 fun v32 =>
 kint .i64 .add v29 (.int .i64 1) fun v33 =>
 kcall Tryz.prog 204 #[v32, v29, v33] w28 fun v34 w35 =>
 kN x0 <|
 kfld 2 x0 fun v36 =>
 kst 1 v36 v34 w35 fun w37 =>
 kN x0 <|
 kfld 0 x0 fun v38 =>
 kld v38 w37 fun v39 =>
 ksem Tryz.prog (Builtin.delete_ #[222, 3] 0 #[v39, x1]) w37 fun v40 w41 =>
 kN x0 <|
 kfld 1 x0 fun v42 =>
 kld v42 w41.drew fun v43 =>
 kG (w41.drew = w41.drew) <|
 kldN 2 x6 w41.drew fun v44 =>
 kG (w41.drew = w41.drew) <|
 ksem Tryz.prog (Builtin.delete_ #[223, 37] 0 #[v43, v44]) w41.drew fun v45 w46 =>
 kldN 2 x6 w46 fun v47 =>
 kst 2 x4 v47 w46 fun w48 =>
 kldN 2 x4 w48 fun v49 =>
 Q (.tuple #[v49, .nilIface]) w48
def f183 (x0 x1 : Value) (Q : PQ) (w : World) : Prop :=
 knew #[.int .i64 0, .int .i64 0] 37 w fun v1 w2 =>
 kcall Tryz.prog 138 #[x0, x1] w2 fun v3 w4 =>
 kext v3 0 fun v5 =>
 kext v3 1 fun v6 =>
 knew #[.int .i64 0, .int .i64 0] 37 w4 fun v7 w8 =>
 kst 2 v7 v5 w8 fun w9 =>
 keq Tryz.prog .eql 145 false true x0 (.pointer none) w9 fun v10 w11 =>
 kB v10 fun b51 => kIf b51
 (kbld [.int .i64 0, .int .i64 0] [] fun v12 =>
 kld (.pointer (some ⟨2, 0, none⟩)) w11 fun v13 =>
 kcall Tryz.prog 132 #[v13] w11 fun v14 w15 =>
 kst 2 v1 v12 w15 fun w16 =>
 kldN 2 v1 w16 fun v17 =>
 Q (.tuple #[v17, v14]) w16)
 (kun .not (some .bool) v6 fun v18 =>
 kB v18 fun b50 => kIf b50
 (kbld [.int .i64 0, .int .i64 0] [] fun v19 =>
 kld (.pointer (some ⟨3, 0, none⟩)) w11 fun v20 =>
 kcall Tryz.prog 132 #[v20] w11 fun v21 w22 =>
 kst 2 v1 v19 w22 fun w23 =>
 kldN 2 v1 w23 fun v24 =>
 Q (.tuple #[v24, v21]) w23)
 (f183_0 x0 x1 v1 v7 Q w11))
theorem f183_ok {x0 x1 : Value} {Q : PQ} {w : World} (h : f183 x0 x1 Q w) : Meets Tryz.prog 183 #[x0, x1] w Q :=
 sound' (c := Tryz.f183.body.get rfl) [] Tryz.func183 rfl rfl (args := [x0, x1]) rfl (by kernel_rfl) h
def f138_0 (x0 x1 x4 : Value) (Q : PQ) (w : World) : Prop :=
 kN x0 <|
 kfld 0 x0 fun v8 =>
 kld v8 w fun v9 =>
 ksem Tryz.prog (Instr.lookup 222 v9 x1 true) w fun v10 w11 =>
 kext v10 0 fun v12 =>
 kext v10 1 fun v13 =>
 knew #[.int .i64 0, .int .i64 0] 37 w11 fun v14 w15 =>
 kst 2 v14 v12 w15 fun w16 =>
 kldN 2 v14 w16 fun v17 =>
 kst 2 x4 v17 w16 fun w18 =>
 kldN 2 x4 w18 fun v19 =>
 Q (.tuple #[v19, v13]) w18
def f138 (x0 x1 : Value) (Q : PQ) (w : World) : Prop :=
 knew #[.int .i64 0, .int .i64 0] 37 w fun v1 w2 =>
 keq Tryz.prog .eql 145 false true x0 (.pointer none) w2 fun v3 w4 =>
 kB v3 fun b20 => kIf b20
 (kbld [.int .i64 0, .int .i64 0] [] fun v5 =>
 kst 2 v1 v5 w4 fun w6 =>
 kldN 2 v1 w6 fun v7 =>
 Q (.tuple #[v7, .bool false]) w6)
 (f138_0 x0 x1 v1 Q w4)
theorem f138_ok {x0 x1 : Value} {Q : PQ} {w : World} (h : f138 x0 x1 Q w) : Meets Tryz.prog 138 #[x0, x1] w Q :=
 sound' (c := Tryz.f138.body.get rfl) [] Tryz.func138 rfl rfl (args := [x0, x1]) rfl (by kernel_rfl) h
def f131_0 (x0 x3 : Value) (Q : PQ) (w : World) : Prop :=
 kN x0 <|
 kfld 1 x0 fun v5 =>
 kld v5 w.drew fun v6 =>
 kG (w.drew = w.drew) <|
 kldN 2 x3 w.drew fun v7 =>
 kG (w.drew = w.drew) <|
 ksem Tryz.prog (Instr.lookup 223 v6 v7 true) w.drew fun v8 w9 =>
 kG (w9 = w.drew) <|
 kext v8 0 fun v10 =>
 kext v8 1 fun v11 =>
 Q (.tuple #[v10, v11]) w9
def f131 (x0 x1 : Value) (Q : PQ) (w : World) : Prop :=
 knew (Value.cells x1) 37 w fun v1 w2 =>
 keq Tryz.prog .eql 145 false true x0 (.pointer none) w2 fun v3 w4 =>
 kB v3 fun b12 => kIf b12
 (Q (.tuple #[.int .i64 0, .bool false]) w4)
 (f131_0 x0 v1 Q w4)
theorem f131_ok {x0 x1 : Value} {Q : PQ} {w : World} (h : f131 x0 x1 Q w) : Meets Tryz.prog 131 #[x0, x1] w Q :=
 sound' (c := Tryz.f131.body.get rfl) [] Tryz.func131 rfl rfl (args := [x0, x1]) rfl (by kernel_rfl) h
def f82_0 (x0 : Value) (Q : PQ) (w : World) : Prop :=
 kN x0 <|
 kfld 3 x0 fun v3 =>
 kld v3 w fun v4 =>
 Q v4 w
def f82 (x0 : Value) (Q : PQ) (w : World) : Prop :=
 keq Tryz.prog .eql 145 false true x0 (.pointer none) w fun v1 w2 =>
 kB v1 fun b5 => kIf b5
 (Q (.int .i64 0) w2)
 (f82_0 x0 Q w2)
theorem f82_ok {x0 : Value} {Q : PQ} {w : World} (h : f82 x0 Q w) : Meets Tryz.prog 82 #[x0] w Q :=
 sound' (c := Tryz.f82.body.get rfl) [] Tryz.func82 rfl rfl (args := [x0]) rfl (by kernel_rfl) h
def f135_0 (x0 : Value) (Q : PQ) (w : World) : Prop :=
 kN x0 <|
 kfld 2 x0 fun v3 =>
 kld v3 w fun v4 =>
 kcall Tryz.prog 137 #[v4] w fun v5 w6 =>
 Q v5 w6
def f135 (x0 : Value) (Q : PQ) (w : World) : Prop :=
 keq Tryz.prog .eql 145 false true x0 (.pointer none) w fun v1 w2 =>
 kB v1 fun b7 => kIf b7
 (Q (.slice none 0 0) w2)
 (f135_0 x0 Q w2)
theorem f135_ok {x0 : Value} {Q : PQ} {w : World} (h : f135 x0 Q w) : Meets Tryz.prog 135 #[x0] w Q :=
 sound' (c := Tryz.f135.body.get rfl) [] Tryz.func135 rfl rfl (args := [x0]) rfl (by kernel_rfl) h
def f157_1 (x0 x1 x6 x7 x8 : Value) (J3 : Value → Value → World → Prop) (Q : PQ) (w : World) : Prop :=
 kint .i64 .add x7 x8 fun v4 =>
 kcnv .u64 v4 fun v5 =>
 kint .u64 .shr v5 (.int .u64 1) fun v6 =>
 kcnv .i64 v6 fun v7 =>
 kix (some (.slice 3)) (some 1) x0 v7 fun v8 =>
 kld v8 w fun v9 =>
 kcall Tryz.prog 184 #[v9, x1] w fun v10 w11 =>
 kB v10 fun b13 => kIf b13
 (kint .i64 .add v7 (.int .i64 1) fun v12 =>
 J3 v12 x8 w11)
 (J3 x7 v7 w11)
def f157_2 (x0 x1 x6 x7 : Value) (Q : PQ) (w : World) : Prop :=
 kint .i64 .lss x7 x6 fun v14 =>
 kB v14 fun b15 => kIf b15
 (kix (some (.slice 3)) (some 1) x0 x7 fun v16 =>
 kld v16 w fun v17 =>
 kint .i64 .eql v17 x1 fun v18 =>
 kB v18 fun b19 => kIf (!b19)
 (kix (some (.slice 3)) (some 1) x0 x7 fun v20 =>
 kld v20 w fun v21 =>
 kcall Tryz.prog 185 #[v21] w fun v22 w23 =>
 kB v22 fun b24 => kIf b24
 (kcall Tryz.prog 185 #[x1] w23 fun v25 w26 =>
 Q (.tuple #[x7, v25]) w26)
 (Q (.tuple #[x7, .bool false]) w23))
 (Q (.tuple #[x7, .bool true]) w))
 (Q (.tuple #[x7, .bool false]) w)
def f157_0 (x7 x8 x0 x1 x6 : Value) (J3 : Value → Value → World → Prop) (Q : PQ) (w : World) : Prop :=
 kint .i64 .lss x7 x8 fun v3 =>
 kB v3 fun b27 => kIf b27
 (f157_1 x0 x1 x6 x7 x8 J3 Q w)
 (f157_2 x0 x1 x6 x7 Q w)
def f157 (x0 x1 : Value) (Q : PQ) (w : World) : Prop :=
 klen x0 fun v1 =>
 kL fun (I : Value → Value → World → Prop) (μ : Value → Value → World → Nat) => I (.int .i64 0) v1 w ∧ ∀ (x7 x8 : Value) (w1 : World), I x7 x8 w1 →
 f157_0 x7 x8 x0 x1 v1 (fun y7 y8 w2 => I y7 y8 w2 ∧ μ y7 y8 w2 < μ x7 x8 w1) Q w1
theorem f157_ok {x0 x1 : Value} {Q : PQ} {w : World} (h : f157 x0 x1 Q w) : Meets Tryz.prog 157 #[x0, x1] w Q :=
 sound' (c := Tryz.f157.body.get rfl) [(3, [7, 8])] Tryz.func157 rfl rfl (args := [x0, x1]) rfl (by kernel_rfl) h
def f158_3 (x0 x1 x2 x7 x8 : Value) (Q : PQ) (w : World) : Prop :=
 ksl (some (.slice 3)) (some 1) x0 (some x8) none fun v42 =>
 ksem Tryz.prog (Builtin.copy_ #[85, 85] 0 #[v42, x2]) w fun v43 w44 =>
 ksl (some (.slice 3)) (some 1) x0 (some x1) none fun v45 =>
 kcall Tryz.prog 187 #[v45, x7] w44 fun v46 w47 =>
 Q x0 w47
def f158_2 (x0 x1 x2 x7 x8 : Value) (Q : PQ) (w : World) : Prop :=
 kint .i64 .add x8 x7 fun v27 =>
 ksl (some (.slice 3)) (some 1) x0 none (some v27) fun v28 =>
 kint .i64 .add x1 x7 fun v29 =>
 ksl (some (.slice 3)) (some 1) v28 (some v29) none fun v30 =>
 kextf Tryz.prog 186 [x2, v30] w fun v31 w32 =>
 kun .not (some .bool) v31 fun v33 =>
 kB v33 fun b48 => kIf b48
 (kint .i64 .add x1 x7 fun v34 =>
 ksl (some (.slice 3)) (some 1) v28 (some v34) none fun v35 =>
 ksl (some (.slice 3)) (some 1) v28 (some x1) none fun v36 =>
 ksem Tryz.prog (Builtin.copy_ #[85, 85] 0 #[v35, v36]) w32.drew fun v37 w38 =>
 ksl (some (.slice 3)) (some 1) v28 (some x1) none fun v39 =>
 ksem Tryz.prog (Builtin.copy_ #[85, 85] 0 #[v39, x2]) w38 fun v40 w41 =>
 Q v28 w41)
 (f158_3 v28 x1 x2 x7 x8 Q w32)
def f158_1 (x0 x1 x2 x7 x8 : Value) (Q : PQ) (w : World) : Prop :=
 kint .i64 .add x8 x7 fun v10 =>
 kcap x0 fun v11 =>
 kint .i64 .gtr v10 v11 fun v13 =>
 kB v13 fun b49 => kIf b49
 (ksl (some (.slice 3)) (some 1) x0 none (some x1) fun v14 =>
 kint .i64 .add x8 x7 fun v15 =>
 kint .i64 .sub v15 x1 fun v16 =>
 ksem Tryz.prog (Builtin.append_ #[85, 3] 0 #[v14, v16]) w fun v17 w18 =>
 ksl (some (.slice 3)) (some 1) v17 (some x1) none fun v19 =>
 ksem Tryz.prog (Builtin.copy_ #[85, 85] 0 #[v19, x2]) w18 fun v20 w21 =>
 kint .i64 .add x1 x7 fun v22 =>
 ksl (some (.slice 3)) (some 1) v17 (some v22) none fun v23 =>
 ksl (some (.slice 3)) (some 1) x0 (some x1) none fun v24 =>
 ksem Tryz.prog (Builtin.copy_ #[85, 85] 0 #[v23, v24]) w21.drew fun v25 w26 =>
 Q v17 w26)
 (f158_2 x0 x1 x2 x7 x8 Q w)
def f158_0 (x0 x1 x2 x7 : Value) (Q : PQ) (w : World) : Prop :=
 klen x0 fun v5 =>
 kint .i64 .eql x1 v5 fun v7 =>
 kB v7 fun b50 => kIf b50
 (ksem Tryz.prog (Builtin.append_ #[85, 85] 0 #[x0, x2]) w fun v8 w9 =>
 Q v8 w9)
 (f158_1 x0 x1 x2 x7 v5 Q w)
def f158 (x0 x1 x2 : Value) (Q : PQ) (w : World) : Prop :=
 ksl (some (.slice 3)) (some 1) x0 (some x1) none fun v1 =>
 klen x2 fun v2 =>
 kint .i64 .eql v2 (.int .i64 0) fun v4 =>
 kB v4 fun b51 => kIf b51
 (Q x0 w)
 (f158_0 x0 x1 x2 v2 Q w)
theorem f158_ok {x0 x1 x2 : Value} {Q : PQ} {w : World} (h : f158 x0 x1 x2 Q w) : Meets Tryz.prog 158 #[x0, x1, x2] w Q :=
 sound' (c := Tryz.f158.body.get rfl) [] Tryz.func158 rfl rfl (args := [x0, x1, x2]) rfl (by kernel_rfl) h
def f185 (x0 : Value) (Q : PQ) (w : World) : Prop :=
 kint .i64 .neq x0 x0 fun v1 =>
 Q v1 w
theorem f185_ok {x0 : Value} {Q : PQ} {w : World} (h : f185 x0 Q w) : Meets Tryz.prog 185 #[x0] w Q :=
 sound' (c := Tryz.f185.body.get rfl) [] Tryz.func185 rfl rfl (args := [x0]) rfl (by kernel_rfl) h
def f137_0 (x0 : Value) (Q : PQ) (w : World) : Prop :=
 kbldS [.int .i64 0] 0 [] 3 w fun v3 w4 =>
 ksem Tryz.prog (Builtin.append_ #[85, 85] 0 #[v3, x0]) w4 fun v5 w6 =>
 Q v5 w6
def f137 (x0 : Value) (Q : PQ) (w : World) : Prop :=
 keq Tryz.prog .eql 85 false true x0 (.slice none 0 0) w fun v1 w2 =>
 kB v1 fun b7 => kIf b7
 (Q (.slice none 0 0) w2)
 (f137_0 x0 Q w2)
theorem f137_ok {x0 : Value} {Q : PQ} {w : World} (h : f137 x0 Q w) : Meets Tryz.prog 137 #[x0] w Q :=
 sound' (c := Tryz.f137.body.get rfl) [] Tryz.func137 rfl rfl (args := [x0]) rfl (by kernel_rfl) h
def f184 (x0 x1 : Value) (Q : PQ) (w : World) : Prop :=
 kcall Tryz.prog 153 #[x0] w fun v1 w2 =>
 kB v1 fun b3 => kIf b3
 (kcall Tryz.prog 153 #[x1] w2 fun v4 w5 =>
 kun .not (some .bool) v4 fun v6 =>
 kB v6 fun b7 => kIf (!b7)
 (kint .i64 .lss x0 x1 fun v8 =>
 Q v8 w5)
 (Q (.bool true) w5))
 (kint .i64 .lss x0 x1 fun v9 =>
 Q v9 w2)
theorem f184_ok {x0 x1 : Value} {Q : PQ} {w : World} (h : f184 x0 x1 Q w) : Meets Tryz.prog 184 #[x0, x1] w Q :=
 sound' (c := Tryz.f184.body.get rfl) [] Tryz.func184 rfl rfl (args := [x0, x1]) rfl (by kernel_rfl) h
end
section
attribute [local irreducible] kO kB kStr kInt kN kG kIf kfld kld kldN kst knew kmap kbld kbldS kext kcnv klenStr klen kcap kprt kprtN kbool kint kstr keq kun ksl kix kiv kta kmk kmm ksem ksemU kextf kcallV kcallM kcall kL
def intF (n : Int) : Value := .int .i64 n
theorem ptBad : isPtrT Tryz.prog 145 = true := by kernel_rfl
theorem zEnt0 : zeroO Tryz.prog 37 = some (entV 0 0) := by kernel_rfl
theorem zInt0 : zeroO Tryz.prog 3 = some (.int .i64 0) := by kernel_rfl
theorem less_spec (x y : Int) (w : World) : Meets Tryz.prog 184 #[.int .i64 x, .int .i64 y] w fun v w' => v = .bool (decide (x < y)) ∧ w' = w := by
 refine f184_ok ?_
 unfold f184
 refine kcall_of (isNaN_spec x w) ?_
 rintro v w' ⟨rfl, rfl⟩
 refine kB_at ?_
 refine kIf_F rfl ?_
 refine lss_at ?_
 exact ⟨rfl, rfl⟩
theorem apNums : appT Tryz.prog 85 1 8 = true := by kernel_rfl
theorem slNums_is : ∃ e, Tryz.prog.underlying 85 = some (.slice e) := slT_of (by kernel_rfl)
theorem insert_end {w : World} {sv : Value} {vs : List Value} (hO : Own w sv 1 vs) (hn : vs.length ≤ 1000) {bb : Nat} {x : Int} {t : TypeId} (hb : blk w bb = some (.cells #[.int .i64 x] t)) :
  Meets Tryz.prog 158 #[sv, natV vs.length, .slice (some ⟨bb, 0, none⟩) 1 1] w fun v w' => Own w' v 1 (vs ++ [.int .i64 x]) ∧ Mod (vblk sv) w w' ∧ ∀ k, vblk v k → vblk sv k ∨ w.heap.size ≤ k := by
 have hO' := hO
 obtain ⟨a, n, c, rfl, h1, h2, h3, h4⟩ := hO
 have h1 : n = vs.length := by omega
 subst h1
 rw [natV]
 refine f158_ok ?_
 unfold f158
 rw [ksl_slice rfl rfl]
 refine kG_of (by simp only [loV_int, hiV_none]; omega) ?_
 refine klen_at ?_
 refine eql_at ?_
 rw [decF (by omega)]
 refine kB_at ?_
 refine kIf_F rfl ?_
 unfold f158_0
 refine klen_at ?_
 refine eql_at ?_
 rw [decT rfl]
 refine kB_at ?_
 refine kIf_T rfl ?_
 refine ksem_append apNums (by omega) hO' (Src.ofSlIs (hk := slNums_is.choose_spec) 1 (SlIs.blk hb rfl) rfl) (by simp; omega) (by simp; omega) ?_
 intro v' w' ho hm hf
 exact ⟨ho, hm, hf⟩
theorem own_cells {w : World} {v : Value} {sz : Nat} {vs : List Value} (h : Own w v sz vs) {b : Nat} (hb : vblk v b) : ∃ arr t, blk w b = some (.cells arr t) := by
 obtain ⟨a, n, c, rfl, h1, h2, h3, h4⟩ := h
 obtain ⟨o, n', c', e⟩ := hb
 cases e
 rcases h4 with ⟨h4, _⟩ | ⟨b', arr, t, e, hb, _⟩
 ·cases h4
 ·cases e; exact ⟨arr, t, hb⟩
theorem keyInt' : KeyT Tryz.prog 3 intF := keyInt
theorem isNaNs_spec (x : Int) (w : World) : Meets Tryz.prog 185 #[.int .i64 x] w fun v w' => v = .bool false ∧ w' = w := by
 refine f185_ok ?_
 unfold f185
 refine neq_at ?_
 rw [decF (by simp)]
 exact ⟨rfl, rfl⟩
end
end Go.Proofs.YtmidldeaapdjoaaGreatDoor
namespace Go.Ev
open Go Go.RowKit
section
theorem findNow_congr (kind : TypeDesc) (k : Value) : ∀ (es es' : List MapEntry) (j : Nat), es.map (fun e => (e.key, e.val)) = es'.map (fun e => (e.key, e.val)) → Instr.findNow kind k es j = Instr.findNow kind k es' j
 | [], [], _, _ => rfl
 | [], _ :: _, _, h => by cases h
 | _ :: _, [], _, h => by cases h
 | e :: es, e' :: es', j, h => by
  simp only [List.map_cons, List.cons.injEq, Prod.mk.injEq] at h
  simp only [Instr.findNow, h.1.1, h.1.2, findNow_congr kind k es es' (j + 1) h.2]
theorem findAsking_congr (t : TypeId) (k : Value) : ∀ (es es' : List MapEntry) (j : Nat), es.map (fun e => (e.key, e.val)) = es'.map (fun e => (e.key, e.val)) → Instr.findAsking t k es j = Instr.findAsking t k es' j
 | [], [], _, _ => rfl
 | [], _ :: _, _, h => by cases h
 | _ :: _, [], _, h => by cases h
 | e :: es, e' :: es', j, h => by
  simp only [List.map_cons, List.cons.injEq, Prod.mk.injEq] at h
  simp only [Instr.findAsking, h.1.1, h.1.2, findAsking_congr t k es es' (j + 1) h.2]
theorem findKey_congr (t : TypeId) (k : Value) (es es' : List MapEntry) (h : es.map (fun e => (e.key, e.val)) = es'.map (fun e => (e.key, e.val))) : Instr.findKey t k es = Instr.findKey t k es' := by
 unfold Instr.findKey
 simp only [fun kind => findNow_congr kind k es es' 0 h, findAsking_congr t k es es' 0 h]
theorem entsG_kv {β : Type} {F : β → Value} : ∀ (i : Nat) (kv : List (β × Value)), (entsG F i kv).map (fun e => (e.key, e.val)) = kv.map fun x => (F x.1, x.2)
 | _, [] => rfl
 | i, (n, v) :: r => by simp [entsG, entsG_kv (i + 1) r]
theorem eraseIdx_mapE {α β : Type} (f : α → β) : ∀ (l : List α) (i : Nat), (l.eraseIdx i).map f = (l.map f).eraseIdx i
 | [], _ => rfl
 | _ :: _, 0 => rfl
 | x :: l, i + 1 => by simp [List.eraseIdx_cons_succ, eraseIdx_mapE f l i]
structure EntsE {β : Type} (F : β → Value) (es : List MapEntry) (cl : Nat) (kv : List (β × Value)) : Prop where
 kv : es.map (fun e => (e.key, e.val)) = kv.map fun x => (F x.1, x.2)
 nd : (es.map (·.born)).Nodup
 lt : ∀ e ∈ es, e.born < cl
theorem EntsE.len {β : Type} {F : β → Value} {es : List MapEntry} {cl : Nat} {kv : List (β × Value)} (h : EntsE F es cl kv) : es.length = kv.length := by
 have := congrArg List.length h.kv
 simpa using this
theorem EntsE.get {β : Type} {F : β → Value} {es : List MapEntry} {cl : Nat} {kv : List (β × Value)} (h : EntsE F es cl kv) {i : Nat} {n : β} {v : Value} (hi : kv[i]? = some (n, v)) : ∃ bn, es[i]? = some { key := F n, val := v, born := bn } := by
 have h1 := congrArg (fun l : List (Value × Value) => l[i]?) h.kv
 simp only [List.getElem?_map, hi, Option.map_some] at h1
 cases he : es[i]? with
 | none => rw [he] at h1; cases h1
 | some e =>
  rw [he] at h1
  simp only [Option.map_some, Option.some.injEq, Prod.mk.injEq] at h1
  refine ⟨e.born, ?_⟩
  cases e
  simp only at h1
  rw [h1.1, h1.2]
def MapV {β : Type} [DecidableEq β] (F : β → Value) (w : World) (b : Nat) (f : β → Option Value) : Prop :=
 ∃ es cl kv, Ev.blk w b = some (.map (List.toArray es) cl) ∧ EntsE F es cl kv ∧ (kv.map (·.1)).Nodup ∧ ∀ n, valG n kv = f n
theorem MapV.mod {β : Type} [DecidableEq β] {F : β → Value} {w : World} {b : Nat} {f : β → Option Value} {fp : Nat → Prop} {w' : World} (h : MapV F w b f) (hm : Mod fp w w') (hf : ¬ fp b) : MapV F w' b f := by
 obtain ⟨es, cl, kv, h1, h2⟩ := h
 exact ⟨es, cl, kv, hm.get h1 hf, h2⟩
theorem MapV.same {β : Type} [DecidableEq β] {F : β → Value} {w : World} {b : Nat} {f : β → Option Value} {w' : World} (h : MapV F w b f) (hm : Same w w') : MapV F w' b f := h.mod hm fun h => h
theorem MapV.lt {β : Type} [DecidableEq β] {F : β → Value} {w : World} {b : Nat} {f : β → Option Value} (h : MapV F w b f) : b < w.heap.size := by
 obtain ⟨es, cl, kv, h1, h2⟩ := h
 exact lt_of_blk h1
theorem MapV.cells {β : Type} [DecidableEq β] {F : β → Value} {w : World} {b : Nat} {f : β → Option Value} (h : MapV F w b f) {cs : Array Value} {t : TypeId} {z : Nat × Nat} (hb : Ev.blk w b = some (.cells cs t z)) : False := by
 obtain ⟨es, cl, kv, h1, h2⟩ := h
 rw [hb] at h1; cases h1
theorem MapV.new {β : Type} [DecidableEq β] {F : β → Value} {w : World} {b : Nat} (h : Ev.blk w b = some (.map #[] 0)) : MapV F w b fun _ => none :=
 ⟨[], 0, [], h, ⟨rfl, List.nodup_nil, fun e he => by cases he⟩, List.nodup_nil, fun n => rfl⟩
section
variable {P : Program} {kt : TypeId}
theorem findKeyE {α : Type} [DecidableEq α] {F : α → Value} (hK : KeyT P kt F) (n : α) (w : World) {es : List MapEntry} {cl : Nat} {kv : List (α × Value)} (h : EntsE F es cl kv) : (Instr.findKey kt (F n) es).run P w = .ok (lkG n kv) w := by
 rw [findKey_congr kt (F n) es (entsG F 0 kv) (by rw [h.kv, entsG_kv])]
 exact hK.find n kv w
theorem run_lookupV {α : Type} [DecidableEq α] {F : α → Value} {w : World} {t vt : TypeId} {z : Value} (ht : P.underlying t = some (.map kt vt)) (hK : KeyT P kt F) (hz : zeroO P vt = some z) {b : Nat} {f : α → Option Value} (hm : MapV F w b f) (n : α) (ok : Bool) :
  (Instr.lookup t (.map (some b)) (F n) ok).run P w = .ok (match f n with | some v => if ok then .tuple #[v, .bool true] else v | none => if ok then .tuple #[z, .bool false] else z) w := by
 obtain ⟨es, cl, kv, hb, he, _, hf⟩ := hm
 have hh : w.heap[b]? = some (.map es.toArray cl) := hb
 rw [← hf]
 simp only [Instr.lookup, Sem.run_bind, run_underlying ht, getObj, Sem.run, hh, Result.andThen, hK.check, findKeyE hK n w he, Sem.run_pure, valG]
 cases lkG n kv with
 | none => cases ok <;> simp [Sem.run, run_zero' hz]
 | some x => cases ok <;> simp [Sem.run]
theorem klookOkV {α : Type} [DecidableEq α] {F : α → Value} {w : World} {t vt : TypeId} {z : Value} (ht : P.underlying t = some (.map kt vt)) (hK : KeyT P kt F) (hz : zeroO P vt = some z) {b : Nat} {f : α → Option Value} (hm : MapV F w b f) (n : α) {K : Value → World → Prop}
  (h : K (.tuple #[(f n).getD z, .bool (f n).isSome]) w) : ksem P (Instr.lookup t (.map (some b)) (F n) true) w K := by
 rw [ksem_ok (run_lookupV ht hK hz hm n true)]
 cases hv : f n with
 | none => rw [hv] at h; exact h
 | some x => rw [hv] at h; exact h
def MapP {α : Type} [DecidableEq α] (F : α → Value) (w : World) (b : Nat) (f : α → Option Value) (n : α) (s : Nat) : Prop :=
 ∃ (es : List MapEntry) (cl : Nat) (kv : List (α × Value)) (j : Nat), Ev.blk w b = some (.map (List.toArray es) cl) ∧ EntsE F es cl kv ∧ (kv.map (·.1)).Nodup ∧ (∀ m, m ≠ n → valG m kv = f m) ∧ (∃ u, kv[j]? = some (n, u)) ∧ (es[j]?).map (fun e : MapEntry => e.born) = some s
theorem modify_key_id {es : List MapEntry} {i : Nat} {k v : Value} {bn : Nat} (h : es[i]? = some { key := k, val := v, born := bn }) : (es.modify i fun e => { e with key := k }) = es := by
 apply List.ext_getElem?
 intro j
 rw [List.getElem?_modify]
 by_cases hj : i = j
 ·subst hj
  rw [h]
  simp
 ·simp [hj]
theorem kmapEntryV {α : Type} [DecidableEq α] {F : α → Value} {w : World} {t vt : TypeId} {z : Value} (ht : P.underlying t = some (.map kt vt)) (hK : KeyT P kt F) (hz : zeroO P vt = some z) {b : Nat} {f : α → Option Value} (hm : MapV F w b f) (n : α) {K : Value → World → Prop}
  (h : ∀ w2 s, Mod (fun j => j = b) w w2 → w2.heap.size = w.heap.size → MapP F w2 b f n s → K (.tuple #[(f n).getD z, .int .i64 (s : Nat)]) w2) : ksem P (Instr.mapEntry t (.map (some b)) (F n)) w K := by
 obtain ⟨es, cl, kv, hb, he, hnd, hf⟩ := hm
 have hh : w.heap[b]? = some (.map es.toArray cl) := hb
 cases hl : lkG n kv with
 | none =>
  have hr : (Instr.mapEntry t (.map (some b)) (F n)).run P w = .ok (.tuple #[z, .int .i64 cl]) (World.setBlk w b (.map (es ++ [({ key := F n, val := z, born := cl } : MapEntry)]).toArray (cl + 1))) := by
   simp only [Instr.mapEntry, Sem.run_bind, run_underlying ht, getObj, Sem.run, hh, Result.andThen, hK.check, findKeyE hK n w he, Sem.run_pure, setObj, hl]
   simp [World.setBlk, Sem.run, hh, run_zero' hz, goInt]
  rw [ksem_ok hr]
  have hfn : f n = none := by rw [← hf]; unfold valG; rw [hl]; rfl
  have := h (World.setBlk w b (.map (es ++ [({ key := F n, val := z, born := cl } : MapEntry)]).toArray (cl + 1))) cl ((Mod.refl _ _).setBlk _ (.inl rfl)) (setBlk_size _ _ _)
   ⟨es ++ [({ key := F n, val := z, born := cl } : MapEntry)], cl + 1, kv ++ [(n, z)], es.length, by rw [setBlk_heap, if_pos rfl, hb]; rfl, ⟨by rw [List.map_append, List.map_append, he.kv]; rfl, ?_, fun e hmem => ?_⟩, ?_, fun m hmn => ?_, ⟨z, by rw [he.len]; simp⟩, by simp⟩
  ·rw [hfn] at this; exact this
  ·rw [List.map_append]
   refine List.nodup_append.2 ⟨he.nd, by simp, fun x hx y hy e => ?_⟩
   obtain ⟨e1, h1, rfl⟩ := List.mem_map.1 hx
   have := he.lt _ h1
   simp at hy
   omega
  ·rcases List.mem_append.1 hmem with h1 | h1
   ·have := he.lt _ h1; omega
   ·have : e = { key := F n, val := z, born := cl } := by simpa using h1
    rw [this]; simp
  ·rw [← putG_new hl]
   exact putG_nodup hnd
  ·rw [← putG_new hl, valG_put, if_neg hmn]
   exact hf m
 | some x =>
  obtain ⟨i, u⟩ := x
  have hi := lkG_some hl
  obtain ⟨bn, hg⟩ := he.get hi
  have hr : (Instr.mapEntry t (.map (some b)) (F n)).run P w = .ok (.tuple #[u, .int .i64 bn]) (World.setBlk w b (.map es.toArray cl)) := by
   have hget : es.toArray[i]? = some { key := F n, val := u, born := bn } := by rw [List.getElem?_toArray]; exact hg
   simp only [Instr.mapEntry, Sem.run_bind, run_underlying ht, getObj, Sem.run, hh, Result.andThen, hK.check, findKeyE hK n w he, Sem.run_pure, setObj, hl, hget, Option.map_some, Option.getD_some, keyStaysG hK]
   have e1 := modify_key_id hg
   simp [World.setBlk, Sem.run, hh, goInt, e1]
  rw [ksem_ok hr]
  have hfn : f n = some u := by rw [← hf]; unfold valG; rw [hl]; rfl
  have := h (World.setBlk w b (.map es.toArray cl)) bn ((Mod.refl _ _).setBlk _ (.inl rfl)) (setBlk_size _ _ _)
   ⟨es, cl, kv, i, by rw [setBlk_heap, if_pos rfl, hb]; rfl, he, hnd, fun m _ => hf m, ⟨u, hi⟩, by rw [hg]; rfl⟩
  rw [hfn] at this
  exact this
theorem born_idx {es : List MapEntry} (hnd : (es.map (·.born)).Nodup) {j s : Nat} (hj : (es[j]?).map (·.born) = some s) : es.findIdx? (fun e => (e.born : Int) == (s : Int)) = some j := by
 obtain ⟨e, he, rfl⟩ := Option.map_eq_some_iff.1 hj
 obtain ⟨hjl, hje⟩ := List.getElem?_eq_some_iff.1 he
 rw [List.findIdx?_eq_some_iff_getElem]
 refine ⟨hjl, by rw [hje]; simp, fun i hi => ?_⟩
 simp only [Bool.not_eq_true, beq_eq_false_iff_ne, ne_eq]
 intro e2
 have h1 : (es.map (·.born))[i]? = some e.born := by rw [List.getElem?_map, List.getElem?_eq_getElem (by omega)]; simp; omega
 have h2 : (es.map (·.born))[j]? = some e.born := by rw [List.getElem?_map, he]; rfl
 have hil : i < (es.map (·.born)).length := by simp; omega
 have := (List.getElem?_inj hil hnd).1 (h1.trans h2.symm)
 omega
theorem kentryStoreV {α : Type} [DecidableEq α] {F : α → Value} {w : World} {t : TypeId} {b : Nat} {f : α → Option Value} {n : α} {s : Nat} (hm : MapP F w b f n s) {v : Value} {K : Value → World → Prop}
  (h : ∀ w2, Mod (fun j => j = b) w w2 → w2.heap.size = w.heap.size → MapV F w2 b (fun m => if m = n then some v else f m) → K undef w2) : ksemU P (Instr.entryStore t (.map (some b)) (.int .i64 s) v) w K := by
 obtain ⟨es, cl, kv, j, hb, he, hnd, hf, ⟨u, hj⟩, hs⟩ := hm
 have hh : w.heap[b]? = some (.map es.toArray cl) := hb
 have hfi := born_idx he.nd hs
 have hr : (Instr.entryStore t (.map (some b)) (.int .i64 s) v).run P w = .ok () (World.setBlk w b (.map (es.modify j fun e => { e with val := v }).toArray cl)) := by
  simp only [Instr.entryStore, Sem.run_bind, getObj, Sem.run, hh, Result.andThen, Sem.run_pure, setObj, asInt]
  simp [World.setBlk, Sem.run, hh, asIntOf, hfi]
 rw [ksemU_ok hr]
 obtain ⟨bn, hg⟩ := he.get hj
 have hjl := (List.getElem?_eq_some_iff.1 hj).1
 refine h _ ((Mod.refl _ _).setBlk _ (.inl rfl)) (setBlk_size _ _ _) ⟨_, cl, kv.set j (n, v), by rw [setBlk_heap, if_pos rfl, hb]; rfl, ⟨?_, ?_, fun e hmem => ?_⟩, ?_, fun m => ?_⟩
 ·apply List.ext_getElem?
  intro k
  have hk := congrArg (fun l : List (Value × Value) => l[k]?) he.kv
  simp only [List.getElem?_map] at hk
  rw [List.getElem?_map, List.getElem?_map, List.getElem?_modify, List.getElem?_set]
  by_cases hjk : j = k
  ·subst hjk
   simp [hg, hjl]
  ·simp only [hjk, if_false, id_eq]
   simpa using hk
 ·have : (es.modify j fun e => { e with val := v }).map (·.born) = es.map (·.born) := by
   apply List.ext_getElem?
   intro k
   rw [List.getElem?_map, List.getElem?_map, List.getElem?_modify]
   by_cases hjk : j = k
   ·subst hjk; simp [hg]
   ·simp [hjk]
  rw [this]; exact he.nd
 ·obtain ⟨k, hk⟩ := List.mem_iff_getElem?.1 hmem
  rw [List.getElem?_modify] at hk
  by_cases hjk : j = k
  ·subst hjk
   rw [hg] at hk
   simp at hk
   rw [← hk]
   show bn < cl
   have := he.lt _ (List.mem_of_getElem? hg)
   exact this
  ·simp only [hjk, if_false] at hk
   exact he.lt _ (List.mem_of_getElem? (by simpa using hk))
 ·have : (kv.set j (n, v)).map (·.1) = kv.map (·.1) := by
   apply List.ext_getElem?
   intro k
   rw [List.getElem?_map, List.getElem?_map, List.getElem?_set]
   by_cases hjk : j = k
   ·subst hjk
    rw [if_pos rfl, if_pos hjl, hj]; rfl
   ·simp [hjk]
  rw [this]; exact hnd
 ·have hl : ∃ y, lkG n kv = some (j, y) := by
   cases hl : lkG n kv with
   | none => exact absurd (List.mem_map.2 ⟨_, List.mem_of_getElem? hj, rfl⟩) (lkG_none.1 hl)
   | some x =>
    obtain ⟨i, y⟩ := x
    have hi := lkG_some hl
    have hil := (List.getElem?_eq_some_iff.1 hi).1
    have h1 : (kv.map (·.1))[i]? = some n := by rw [List.getElem?_map, hi]; rfl
    have h2 : (kv.map (·.1))[j]? = some n := by rw [List.getElem?_map, hj]; rfl
    have := (List.getElem?_inj (by simpa using hil) hnd).1 (h1.trans h2.symm)
    subst this
    exact ⟨y, rfl⟩
  obtain ⟨y, hl⟩ := hl
  show valG m (kv.set j (n, v)) = if m = n then some v else f m
  rw [← putG_old hl, valG_put]
  by_cases hmn : m = n
  ·rw [if_pos hmn, if_pos hmn]
  ·rw [if_neg hmn, if_neg hmn]; exact hf m hmn
theorem kdelV {α : Type} [DecidableEq α] {F : α → Value} {w : World} {t tk vt ty : TypeId} (ht : P.underlying t = some (.map kt vt)) (hK : KeyT P kt F) {b : Nat} {f : α → Option Value} (hm : MapV F w b f) (n : α) {K : Value → World → Prop}
  (h : ∀ w2, Mod (fun j => j = b) w w2 → w2.heap.size = w.heap.size → MapV F w2 b (fun m => if m = n then none else f m) → K (.tuple #[]) w2) : ksem P (Builtin.delete_ #[t, tk] ty #[.map (some b), F n]) w K := by
 obtain ⟨es, cl, kv, hb, he, hnd, hf⟩ := hm
 have hh : w.heap[b]? = some (.map es.toArray cl) := hb
 cases hl : lkG n kv with
 | none =>
  have hr : (Builtin.delete_ #[t, tk] ty #[.map (some b), F n]).run P w = .ok (.tuple #[]) (World.setBlk w b (.map es.toArray cl)) := by
   simp only [Builtin.delete_, List.getElem?_toArray, List.getElem?_cons_zero, List.getElem?_cons_succ, Sem.run_bind, run_underlying ht, getObj, Sem.run, hh, Result.andThen, hK.check, findKeyE hK n w he, Sem.run_pure, setObj, hl]
   simp [World.setBlk, Sem.run, hh]
  rw [ksem_ok hr]
  refine h _ ((Mod.refl _ _).setBlk _ (.inl rfl)) (setBlk_size _ _ _) ⟨es, cl, kv, by rw [setBlk_heap, if_pos rfl, hb]; rfl, he, hnd, fun m => ?_⟩
  show valG m kv = if m = n then none else f m
  by_cases hmn : m = n
  ·subst hmn
   rw [if_pos rfl]; unfold valG; rw [hl]; rfl
  ·rw [if_neg hmn]; exact hf m
 | some x =>
  obtain ⟨i, u⟩ := x
  have hi := lkG_some hl
  have hil := (List.getElem?_eq_some_iff.1 hi).1
  have hie : i < es.length := by rw [he.len]; exact hil
  have hr : (Builtin.delete_ #[t, tk] ty #[.map (some b), F n]).run P w = .ok (.tuple #[]) (World.setBlk w b (.map (es.eraseIdx i).toArray cl)) := by
   simp only [Builtin.delete_, List.getElem?_toArray, List.getElem?_cons_zero, List.getElem?_cons_succ, Sem.run_bind, run_underlying ht, getObj, Sem.run, hh, Result.andThen, hK.check, findKeyE hK n w he, Sem.run_pure, setObj, hl]
   have e1 : es.toArray.eraseIdxIfInBounds i = (es.eraseIdx i).toArray := by simp [Array.eraseIdxIfInBounds, hie]
   simp [World.setBlk, Sem.run, hh, e1]
  rw [ksem_ok hr]
  have hnd' : ((kv.eraseIdx i).map (·.1)).Nodup := by
   rw [eraseIdx_mapE]
   exact hnd.sublist (List.eraseIdx_sublist _ _)
  refine h _ ((Mod.refl _ _).setBlk _ (.inl rfl)) (setBlk_size _ _ _) ⟨es.eraseIdx i, cl, kv.eraseIdx i, by rw [setBlk_heap, if_pos rfl, hb]; rfl, ⟨?_, ?_, fun e hmem => he.lt e ((List.eraseIdx_sublist _ _).subset hmem)⟩, hnd', fun m => ?_⟩
  ·rw [eraseIdx_mapE, he.kv, eraseIdx_mapE]
  ·rw [eraseIdx_mapE]
   exact he.nd.sublist (List.eraseIdx_sublist _ _)
  ·show valG m (kv.eraseIdx i) = if m = n then none else f m
   rw [← hf m]
   have hni : (kv.map (·.1))[i]? = some n := by rw [List.getElem?_map, hi]; rfl
   have hkey : ∀ m, m ∈ (kv.eraseIdx i).map (·.1) ↔ m ≠ n ∧ m ∈ kv.map (·.1) := by
    intro m
    rw [eraseIdx_mapE, List.mem_eraseIdx_iff_getElem?]
    constructor
    ·rintro ⟨j, hji, hj⟩
     refine ⟨fun e => hji ?_, List.mem_of_getElem? hj⟩
     subst e
     exact (List.getElem?_inj (List.getElem?_eq_some_iff.1 hj).1 hnd).1 (hj.trans hni.symm)
    ·rintro ⟨hmn, hmem⟩
     obtain ⟨j, hj⟩ := List.mem_iff_getElem?.1 hmem
     refine ⟨j, fun e => hmn ?_, hj⟩
     subst e
     rw [hj] at hni
     exact Option.some.inj hni
   by_cases hmn : m = n
   ·subst hmn
    rw [if_pos rfl]
    unfold valG
    rw [lkG_none.2 fun hmem => ((hkey m).1 hmem).1 rfl]; rfl
   ·rw [if_neg hmn]
    cases hk : lkG m kv with
    | none =>
     have := lkG_none.1 hk
     unfold valG
     rw [hk, lkG_none.2 fun hmem => this ((hkey m).1 hmem).2]
    | some y =>
     obtain ⟨j, v⟩ := y
     have hj := lkG_some hk
     cases hk2 : lkG m (kv.eraseIdx i) with
     | none => exact absurd ((hkey m).2 ⟨hmn, List.mem_map.2 ⟨_, List.mem_of_getElem? hj, rfl⟩⟩) (lkG_none.1 hk2)
     | some y2 =>
      obtain ⟨j2, v2⟩ := y2
      have hj2 := lkG_some hk2
      have hm2 : (m, v2) ∈ kv := (List.eraseIdx_sublist _ _).subset (List.mem_of_getElem? hj2)
      obtain ⟨j3, hj3⟩ := List.mem_iff_getElem?.1 hm2
      have h1 : (kv.map (·.1))[j3]? = some m := by rw [List.getElem?_map, hj3]; rfl
      have h2 : (kv.map (·.1))[j]? = some m := by rw [List.getElem?_map, hj]; rfl
      have := (List.getElem?_inj (List.getElem?_eq_some_iff.1 h1).1 hnd).1 (h1.trans h2.symm)
      subst this
      rw [hj3] at hj
      cases hj
      unfold valG
      rw [hk, hk2]; rfl
end
end
end Go.Ev
namespace Go.Proofs.YtmidldeaapdjoaaGreatDoor
open Go Go.Ev
section
attribute [local irreducible] kO kB kStr kInt kN kG kIf kfld kld kldN kst knew kmap kbld kbldS kext kcnv klenStr klen kcap kprt kprtN kbool kint kstr keq kun ksl kix kiv kta kmk kmm ksem ksemU kextf kcallV kcallM kcall kL
theorem asc_get {l : List Int} (h : l.Pairwise (fun x y => x < y)) {i j : Nat} (hij : i < j) (hj : j < l.length) : l[i] < l[j] := (List.pairwise_iff_getElem.1 h) i j (by omega) hj hij
theorem bsearchG {w : World} {a : Option Addr} {c : Nat} {l : List Int} (hn : l.length ≤ 1000000) (hs : SlIs w a l.length 1 (l.map nV)) (hl : l.Pairwise (fun x y => x < y)) (x : Int) :
  Meets Tryz.prog 157 #[.slice a l.length c, .int .i64 x] w fun v w' => Same w w' ∧ ∃ k : Nat, k ≤ l.length ∧ (∀ i (hi : i < l.length), i < k → l[i] < x) ∧ (∀ i (hi : i < l.length), k ≤ i → x ≤ l[i]) ∧ v = .tuple #[.int .i64 k, .bool (decide (x ∈ l))] := by
 refine f157_ok ?_
 unfold f157
 refine klen_at ?_
 refine kL2_of l.length (fun r p q wr => ∃ i j : Nat, j - i + r ≤ l.length ∧ i ≤ j ∧ j ≤ l.length ∧ (∀ m (hm : m < l.length), m < i → l[m] < x) ∧ (∀ m (hm : m < l.length), j ≤ m → x ≤ l[m]) ∧ p = .int .i64 i ∧ q = .int .i64 j ∧ Same w wr) ⟨lI2_0 ⟨0, l.length, by omega, by omega, by omega, fun m _ h => by omega, fun m hm h => by omega, rfl, rfl, Mod.refl _ _⟩, fun p q wr hp => ?_⟩
 obtain ⟨r, hr, ⟨i, j, hj, hij, hjl, hlo, hhi, rfl, rfl, hm⟩, hJ⟩ := lI2_step hp
 unfold f157_0
 refine lss_at ?_
 refine kB_at ?_
 refine kIf_dec (fun hlt => ?_) (fun hge => ?_)
 ·have hlt : i < j := by omega
  unfold f157_1
  refine add_at (by omega) (by omega) ?_
  rw [kcnv_int, wrap_u64 (by omega) (by omega), kint_shr]
  refine kG_of (by omega) ?_
  have e2 : ishr .u64 ((i : Int) + (j : Int)) 1 = (((i + j) / 2 : Nat) : Int) := by
   have := shr_nat (k := .u64) (i + j) 1 (by decide)
   rw [show ((i + j : Nat) : Int) = (i : Int) + (j : Int) by omega] at this
   exact this
  rw [e2, kcnv_int, wrap_i64 (by omega) (by omega)]
  have hh1 : (i + j) / 2 < j := by omega
  have hh2 : i ≤ (i + j) / 2 := by omega
  generalize (i + j) / 2 = h at *
  have hhl : h < l.length := by omega
  refine kixld_of (F := nV) (l := l) (c := c) (hs.same hm) hhl rfl ?_
  rw [nV]
  refine kcall_of (less_spec _ _ _) ?_
  rintro v w' ⟨rfl, rfl⟩
  refine kB_at ?_
  refine kIf_dec (fun hc => ?_) (fun hc => ?_)
  ·refine add_at (by omega) (by omega) ?_
   rw [show (h : Int) + 1 = ((h + 1 : Nat) : Int) by omega]
   refine hJ _ _ _ (by omega) ⟨h + 1, j, by omega, by omega, hjl, fun m hml hmh => ?_, hhi, rfl, rfl, hm⟩
   by_cases he : m = h
   ·subst he; exact hc
   ·have := asc_get hl (show m < h by omega) hhl
    omega
  ·refine hJ _ _ _ (by omega) ⟨i, h, by omega, hh2, by omega, hlo, fun m hml hmh => ?_, rfl, rfl, hm⟩
   by_cases he : m = h
   ·subst he; omega
   ·have := asc_get hl (show h < m by omega) hml
    omega
 ·have : i = j := by omega
  subst this
  unfold f157_2
  refine lss_at ?_
  refine kB_at ?_
  refine kIf_dec (fun hlt => ?_) (fun hge => ?_)
  ·have hil : i < l.length := by omega
   have hxi := hhi i hil (Nat.le_refl _)
   refine kixld_of (F := nV) (l := l) (c := c) (hs.same hm) hil rfl ?_
   rw [nV]
   refine eql_at ?_
   refine kB_at ?_
   by_cases he : l[i] = x
   ·rw [decT he]
    refine kIf_F rfl ?_
    refine ⟨hm, i, hjl, hlo, hhi, ?_⟩
    rw [decT (he ▸ List.getElem_mem hil)]
   ·rw [decF he]
    refine kIf_T rfl ?_
    refine kixld_of (F := nV) (l := l) (c := c) (hs.same hm) hil rfl ?_
    rw [nV]
    refine kcall_of (isNaNs_spec _ _) ?_
    rintro v w' ⟨rfl, rfl⟩
    refine kB_at ?_
    refine kIf_F rfl ?_
    refine ⟨hm, i, hjl, hlo, hhi, ?_⟩
    have hx : x ∉ l := fun hmem => by
     obtain ⟨m, hml, e⟩ := List.mem_iff_getElem.1 hmem
     rcases Nat.lt_trichotomy m i with h | h | h
     ·have := hlo m hml h; omega
     ·subst h; exact he e
     ·have := asc_get hl h hml; omega
    rw [decF hx]
  ·refine ⟨hm, i, hjl, hlo, hhi, ?_⟩
   have hx : x ∉ l := fun hmem => by
    obtain ⟨m, hml, e⟩ := List.mem_iff_getElem.1 hmem
    have := hlo m hml (by omega)
    omega
   rw [decF hx]
structure BdM where
 l : List (Nat × EK)
 nx : Nat
def BdM.own (B : BdM) (n : Int) : Option Value := (B.l.find? fun x => decide (((x.1 : Nat) : Int) = n)).map fun x => x.2.v
def BdM.ids (B : BdM) (e : EK) : Option Value := (B.l.find? fun x => decide (x.2 = e)).map fun x => natV x.1
def BdM.nums (B : BdM) : List Int := B.l.map fun x => ((x.1 : Nat) : Int)
structure BdM.WF (B : BdM) : Prop where
 asc : (B.l.map (·.1)).Pairwise (fun x y => x < y)
 lt : ∀ x ∈ B.l, 1 ≤ x.1 ∧ x.1 < B.nx
 nd : (B.l.map (·.2)).Nodup
 pos : 1 ≤ B.nx
theorem BdM.WF.ascI {B : BdM} (h : B.WF) : B.nums.Pairwise (fun x y => x < y) := by
 have := h.asc
 unfold BdM.nums
 rw [List.pairwise_map] at this ⊢
 exact this.imp fun h => by omega
structure BdQ (U : Nat → Prop) (w : World) (b : Nat) (B : BdM) (bo bi : Nat) (sv : Value) : Prop where
 here : blk w b = some (.cells #[.map (some bo), .map (some bi), sv, natV B.nx] 225)
 own : MapV intF w bo B.own
 ids : MapV EK.v w bi B.ids
 nums : Own w sv 1 (B.nums.map nV)
 ub : U b
 uo : U bo
 ui : U bi
 us : ∀ k, vblk sv k → U k
 ne : bo ≠ bi
 ns : ∀ k, vblk sv k → k ≠ b
 wf : B.WF
 le : B.l.length ≤ 64
def BdAt (U : Nat → Prop) (w : World) (b : Nat) (B : BdM) : Prop := ∃ bo bi sv, BdQ U w b B bo bi sv
theorem BdQ.mod {U fp : Nat → Prop} {w w' : World} {b : Nat} {B : BdM} {bo bi : Nat} {sv : Value} (h : BdQ U w b B bo bi sv) (m : Mod fp w w') (hf : ∀ k, U k → ¬ fp k) : BdQ U w' b B bo bi sv :=
 ⟨m.get h.here (hf _ h.ub), h.own.mod m (hf _ h.uo), h.ids.mod m (hf _ h.ui), h.nums.mod m fun k hk => hf k (h.us k hk), h.ub, h.uo, h.ui, h.us, h.ne, h.ns, h.wf, h.le⟩
theorem BdAt.mod {U fp : Nat → Prop} {w w' : World} {b : Nat} {B : BdM} (h : BdAt U w b B) (m : Mod fp w w') (hf : ∀ k, U k → ¬ fp k) : BdAt U w' b B := by
 obtain ⟨bo, bi, sv, h⟩ := h
 exact ⟨bo, bi, sv, h.mod m hf⟩
theorem BdAt.same {U : Nat → Prop} {w w' : World} {b : Nat} {B : BdM} (h : BdAt U w b B) (m : Same w w') : BdAt U w' b B := h.mod m fun _ _ h => h
theorem BdAt.mono {U U' : Nat → Prop} {w : World} {b : Nat} {B : BdM} (h : BdAt U w b B) (hU : ∀ k, k < w.heap.size → U k → U' k) : BdAt U' w b B := by
 obtain ⟨bo, bi, sv, h⟩ := h
 exact ⟨bo, bi, sv, h.here, h.own, h.ids, h.nums, hU _ (lt_of_blk h.here) h.ub, hU _ h.own.lt h.uo, hU _ h.ids.lt h.ui, fun k hk => hU _ (h.nums.vblk_lt hk) (h.us k hk), h.ne, h.ns, h.wf, h.le⟩
theorem BdQ.apart {U : Nat → Prop} {w : World} {b : Nat} {B : BdM} {bo bi : Nat} {sv : Value} (h : BdQ U w b B bo bi sv) : bo ≠ b ∧ bi ≠ b ∧ ∀ k, vblk sv k → k ≠ bo ∧ k ≠ bi := by
 refine ⟨fun e => ?_, fun e => ?_, fun k hk => ?_⟩
 ·exact (e ▸ h.own).cells h.here
 ·exact (e ▸ h.ids).cells h.here
 ·obtain ⟨arr, t, hk⟩ := own_cells h.nums hk
  exact ⟨fun e => (e ▸ h.own).cells hk, fun e => (e ▸ h.ids).cells hk⟩
theorem bdNew (w : World) : Meets Tryz.prog 74 #[] w fun v w' => ∃ b, v = .pointer (some ⟨b, 0, none⟩) ∧ BdAt (fun k => w.heap.size ≤ k) w' b ⟨[], 1⟩ ∧ Same w w' := by
 refine f74_ok ?_
 unfold f74
 refine kmap_of fun w2 h2 hs2 hm2 => ?_
 refine kmap_of fun w4 h4 hs4 hm4 => ?_
 refine kbld_of (cs := [.map (some w.heap.size), .map (some w2.heap.size), .slice none 0 0, .int .i64 1]) rfl ?_
 refine knew_of fun w6 h6 hs6 hb6 => ?_
 refine ⟨w4.heap.size, rfl, ⟨w.heap.size, w2.heap.size, .slice none 0 0, hb6, ?_, ?_, Own.nil _ _, by omega, by omega, by omega, fun k hk => ?_, by omega, fun k hk => ?_, ⟨List.Pairwise.nil, (fun x hx => by cases hx), List.nodup_nil, Nat.le_refl _⟩, by simp⟩, (h2.trans h4).trans h6⟩
 ·have e : blk w2 w.heap.size = some (.map #[] 0) := hm2 .i64
  exact MapV.new ((h4.trans h6).get e (fun h => h))
 ·have e : blk w4 w2.heap.size = some (.map #[] 0) := hm4 .i64
  exact MapV.new (h6.get e (fun h => h))
 ·obtain ⟨_, _, _, e⟩ := hk; cases e
 ·obtain ⟨_, _, _, e⟩ := hk; cases e
theorem bdEntity {U : Nat → Prop} {w : World} {b : Nat} {B : BdM} (h : BdAt U w b B) (x : Int) :
  Meets Tryz.prog 138 #[.pointer (some ⟨b, 0, none⟩), .int .i64 x] w fun v w' => v = .tuple #[(match B.l.find? fun y => decide (((y.1 : Nat) : Int) = x) with | some y => y.2.v | none => entV 0 0), .bool (B.l.find? fun y => decide (((y.1 : Nat) : Int) = x)).isSome] ∧ Same w w' := by
 obtain ⟨bo, bi, sv, h⟩ := h
 refine f138_ok ?_
 unfold f138
 refine knew_of fun w2 h2 hs2 hb2 => ?_
 rw [keq_ptr_nil ptBad]
 refine kB_at ?_
 refine kIf_F rfl ?_
 unfold f138_0
 have q2 := h.mod h2 (fun _ _ h => h)
 have hh := q2.here
 refine kN_at ?_
 refine kfld_of ?_
 refine kld_at hh rfl ?_
 refine klookOkV (F := intF) Tryz.underlying222 keyInt' zEnt0 q2.own x ?_
 obtain ⟨i, g, hig⟩ : ∃ i g : Int, (B.own x).getD (entV 0 0) = entV i g := by
  unfold BdM.own
  cases B.l.find? fun y => decide (((y.1 : Nat) : Int) = x) with
  | none => exact ⟨0, 0, rfl⟩
  | some y => exact ⟨y.2.i, y.2.g, rfl⟩
 have hres : (match B.l.find? fun y => decide (((y.1 : Nat) : Int) = x) with | some y => y.2.v | none => entV 0 0) = entV i g := by
  rw [← hig]
  unfold BdM.own
  cases B.l.find? fun y => decide (((y.1 : Nat) : Int) = x) <;> rfl
 have hsome : (B.own x).isSome = (B.l.find? fun y => decide (((y.1 : Nat) : Int) = x)).isSome := by unfold BdM.own; simp
 rw [hig, hres, hsome]
 have hz2 := h2.size
 refine kext_at rfl ?_
 refine kext_at rfl ?_
 refine knew_of fun w14 h14 hs14 hb14 => ?_
 refine kst_of (vs := [.int .i64 i, .int .i64 g]) hb14 rfl rfl rfl (by simp) (by simp) fun w16 h16 hs16 hb16 => ?_
 have hb16 : blk w16 w2.heap.size = some (.cells #[.int .i64 i, .int .i64 g] 37) := hb16
 refine kldN_at (cs := [.int .i64 i, .int .i64 g]) hb16 rfl (by omega) ?_
 have m14 : Same w w14 := h2.trans h14
 have m16 : Same w w16 := m14.trans' (h16.mono fun k _ e => .inr (by omega))
 have hb2' : ∃ arr, blk w16 w.heap.size = some (.cells arr 37) ∧ arr.size = 2 := ⟨_, h16.get (h14.get hb2 (fun h => h)) (by omega), rfl⟩
 obtain ⟨arr, hb2', ha2⟩ := hb2'
 refine kst_of (vs := [.int .i64 i, .int .i64 g]) hb2' rfl rfl rfl (by omega) (by simp) fun w18 h18 hs18 hb18 => ?_
 have hb18 : blk w18 w.heap.size = some (.cells (setAll [.int .i64 i, .int .i64 g] arr 0) 37) := hb18
 have e18 : segL (setAll [Value.int .i64 i, .int .i64 g] arr 0).toList 0 2 = some [.int .i64 i, .int .i64 g] := by
  have hal : arr = #[arr[0], arr[1]] := by
   apply Array.ext
   ·simp [ha2]
   ·intro i h1 h2
    have : i = 0 ∨ i = 1 := by omega
    rcases this with rfl | rfl <;> simp
  rw [hal]; rfl
 refine kldN_at (cs := [.int .i64 i, .int .i64 g]) hb18 e18 (by omega) ?_
 exact ⟨rfl, m16.trans' (h18.mono fun k _ e => .inr (by omega))⟩
theorem bdID {U : Nat → Prop} {w : World} {b : Nat} {B : BdM} (h : BdAt U w b B) (e : EK) :
  Meets Tryz.prog 131 #[.pointer (some ⟨b, 0, none⟩), e.v] w fun v w' => v = .tuple #[(B.ids e).getD (.int .i64 0), .bool (B.ids e).isSome] ∧ Same w w' := by
 obtain ⟨bo, bi, sv, h⟩ := h
 refine f131_ok ?_
 unfold f131
 refine knew_of fun w2 hm2 hs2 hb2 => ?_
 have hb2 : blk w2.drew w.heap.size = some (.cells #[.int .i64 e.i, .int .i64 e.g] 37) := hb2
 rw [keq_ptr_nil ptBad]
 refine kB_at ?_
 refine kIf_F rfl ?_
 unfold f131_0
 have m2 : Same w w2.drew := hm2.drew
 have h2 := h.mod m2 (fun _ _ h => h)
 generalize w2.drew = wa at *
 have hh := h2.here
 refine kN_at ?_
 refine kfld_of ?_
 refine kld_at hh rfl ?_
 refine kG_of rfl ?_
 refine kldN_at (cs := [.int .i64 e.i, .int .i64 e.g]) hb2 rfl (by omega) ?_
 refine kG_of rfl ?_
 refine klookOkV Tryz.underlying223 keyEK zInt0 h2.ids e ?_
 refine kG_of rfl ?_
 refine kext_at rfl ?_
 refine kext_at rfl ?_
 exact ⟨rfl, m2⟩
end
end Go.Proofs.YtmidldeaapdjoaaGreatDoor
