/-
Lemmas for the statements of this seat: no statement of the seat is proved in this part (3 of 7); the conditions stand in each theorem.
-/
import Derived.Test.YtlkpadfkmdgjcaaGreatDoorStore2
import Derived.Test.YtlkpadfkmdgjcaaGreatDoorProg
section
set_option linter.unusedSimpArgs false
set_option linter.unusedVariables false
namespace Go.Proofs.YtlkpadfkmdgjcaaGreatDoor
open Go Go.Ev
set_option linter.unusedVariables false
set_option linter.unusedSimpArgs false
set_option maxRecDepth 100000
attribute [local irreducible] kO kB kStr kInt kN kG kIf kfld kld kldN kst knew kmap kbld kbldS kext kcnv klenStr klen kcap kprt kprtN kbool kint kstr keq kun ksl kix kiv kta kmk kmm ksem ksemU kextf kcallV kcallM kcall kL

/-- The rows without one: the last one comes in its place. -/
def takeRow {α : Type} (rows : List α) (n : Nat) : List α := match rows.getLast? with
  | some x => (rows.set n x).take (rows.length - 1)
  | none => []
theorem takeRow_eq {α : Type} {rows : List α} (h : 0 < rows.length) (n : Nat) : takeRow rows n = (rows.set n (rows[rows.length - 1]'(by omega))).take (rows.length - 1) := by
  unfold takeRow
  rw [List.getLast?_eq_getElem?, List.getElem?_eq_getElem (by omega)]
theorem cTake_spec {o : Lab} {w : World} {b i c wd : Nat} {rows : List Part} (h : ColAt o w b i c wd rows) {n : Nat} (hn : n < rows.length) :
    Meets Tryz.prog 151 #[.pointer (some ⟨b, 0, none⟩), .int .i64 n] w fun v w' =>
      v = .tuple #[.agg rows[n].cells.toArray, .nilIface] ∧ ColAt o w' b i c wd (takeRow rows n) ∧ Mod (FP o (colTag i c)) w w' := by
  obtain ⟨bc, cp, bt, ct, arr, arrt, tc, tt, hv, hbcl, hbtl, hO1, hO2⟩ := h.view (by omega)
  obtain ⟨hlab, hwd1, hwd4, hc16, hlen, hrows, _⟩ := id h
  have hnw : (n + 1) * wd ≤ rows.length * wd := Nat.mul_le_mul_right _ hn
  rw [Nat.add_mul, Nat.one_mul] at hnw
  obtain ⟨L, hL⟩ : ∃ L, L + 1 = rows.length := ⟨rows.length - 1, by omega⟩
  have hLlt : L < rows.length := by omega
  have hlw : L * wd + wd = rows.length * wd := by rw [← hL, Nat.add_mul, Nat.one_mul]
  have hbig : rows.length * wd ≤ 1000000 * 4 := Nat.mul_le_mul hlen hwd4
  have hcsz := hv.csz
  have htsz := hv.tsz
  have hccap := hv.ccap
  have htcap := hv.tcap
  have nbc : bc ≠ b := fun e => by rw [e, hlab] at hbcl; cases hbcl
  have nbt : bt ≠ b := fun e => by rw [e, hlab] at hbtl; cases hbtl
  have nct : bc ≠ bt := fun e => by rw [e, hbtl] at hbcl; cases hbcl
  have lb := lt_of_blk hv.col
  have lbc := lt_of_blk hv.cells
  have lbt := lt_of_blk hv.ticks
  have hlast : (arr.toList.drop (L * wd)).take wd = cellsF wd rows[L] := by
    have e := flat_get (cellsF wd) wd (cellsF_len hwd4) rows L hLlt
    rw [← hv.at_, List.drop_take, List.take_take, Nat.min_eq_left (by omega)] at e
    exact e
  have htl := hv.tick hLlt
  refine f151_ok ?_
  unfold f151
  refine knew_of fun w2 h2 hs2 hb2 => ?_
  refine kcall_of (crow_spec (h.same h2) hn (hv.same h2)) ?_
  rintro v w4 ⟨rfl, h4⟩
  have m4 := h2.trans h4
  have hb4 := h4.get hb2 (fun h => h)
  repeat (first | refine kN_at ?_ | refine kB_at ?_ | refine kfld_of ?_ | refine kext_at rfl ?_ | refine kG_of (by first | exact rfl | omega) ?_ | refine klen_at ?_ | refine eql_at ?_ | refine neq_at ?_ | refine lss_at ?_ | refine leq_at ?_ | refine gtr_at ?_ | refine geq_at ?_ | refine add_at (by omega) (by omega) ?_ | refine sub_at (by omega) (by omega) ?_ | refine not_at ?_ | refine kO_at ?_ | refine kprt_at rfl ?_ | refine kprtN_at rfl ?_ | refine kcap_at ?_ | refine klenStr_at ?_ | refine kN_iat ?_ | refine kN_fat ?_ | refine kIf_T (by first | exact rfl | exact decT (by omega) | exact notT (decF (by omega))) ?_ | refine kIf_F (by first | exact rfl | exact decF (by omega) | exact notF (decT (by omega))) ?_)
  rw [keq_nil_nil' ifErr]
  repeat (first | refine kN_at ?_ | refine kB_at ?_ | refine kfld_of ?_ | refine kext_at rfl ?_ | refine kG_of (by first | exact rfl | omega) ?_ | refine klen_at ?_ | refine eql_at ?_ | refine neq_at ?_ | refine lss_at ?_ | refine leq_at ?_ | refine gtr_at ?_ | refine geq_at ?_ | refine add_at (by omega) (by omega) ?_ | refine sub_at (by omega) (by omega) ?_ | refine not_at ?_ | refine kO_at ?_ | refine kprt_at rfl ?_ | refine kprtN_at rfl ?_ | refine kcap_at ?_ | refine klenStr_at ?_ | refine kN_iat ?_ | refine kN_fat ?_ | refine kIf_T (by first | exact rfl | exact decT (by omega) | exact notT (decF (by omega))) ?_ | refine kIf_F (by first | exact rfl | exact decF (by omega) | exact notF (decT (by omega))) ?_)
  refine kcall_of (cpart_spec (h.same m4) hn (hv.same m4) _) ?_
  rintro v w13 ⟨rfl, h13⟩
  have m13 := m4.trans h13
  have hb13 := h13.get hb4 (fun h => h)
  have hs13 : w.heap.size + 1 ≤ w13.heap.size := by have := h4.size; have := h13.size; omega
  refine knew_of fun w15 h15 hs15 hb15 => ?_
  refine kst_of (vs := rows[n].cells) hb15 rfl rfl rfl (by simp) (by simp [Part.cells]) fun w16 h16 hs16 hb16 => ?_
  have hb16 : blk w16 w13.heap.size = some (.cells rows[n].cells.toArray 49) := hb16
  have m16 : Same w w16 := (m13.trans h15).trans' (h16.mono fun k _ e => .inr (by omega))
  have hz16 := h16.get (h15.get hb13 (fun h => h)) (by omega)
  have hv16 := hv.same m16
  have hcol16 := hv16.col
  repeat (first | refine kN_at ?_ | refine kB_at ?_ | refine kfld_of ?_ | refine kext_at rfl ?_ | refine kld_at hcol16 rfl ?_ | refine kldN_at hcol16 rfl (by omega) ?_ | refine kG_of (by first | exact rfl | omega) ?_ | refine klen_at ?_ | refine eql_at ?_ | refine neq_at ?_ | refine lss_at ?_ | refine leq_at ?_ | refine gtr_at ?_ | refine geq_at ?_ | refine add_at (by omega) (by omega) ?_ | refine sub_at (by omega) (by omega) ?_ | refine not_at ?_ | refine kO_at ?_ | refine kprt_at rfl ?_ | refine kprtN_at rfl ?_ | refine kcap_at ?_ | refine klenStr_at ?_ | refine kN_iat ?_ | refine kN_fat ?_ | refine kIf_T (by first | exact rfl | exact decT (by omega) | exact notT (decF (by omega))) ?_ | refine kIf_F (by first | exact rfl | exact decF (by omega) | exact notF (decT (by omega))) ?_)
  rw [show ((rows.length : Nat) : Int) - 1 = ((L : Nat) : Int) by omega]
  have hmul : IntKind.i64.wrap ((L : Int) * (wd : Int)) = ((L * wd : Nat) : Int) := by
    rw [← Int.natCast_mul]
    rw [wrap_i64 (by omega) (by omega)]
  rw [kint_mul, hmul]
  repeat (first | refine kN_at ?_ | refine kB_at ?_ | refine kfld_of ?_ | refine kext_at rfl ?_ | refine kld_at hcol16 rfl ?_ | refine kldN_at hcol16 rfl (by omega) ?_ | refine kG_of (by first | exact rfl | omega) ?_ | refine klen_at ?_ | refine eql_at ?_ | refine neq_at ?_ | refine lss_at ?_ | refine leq_at ?_ | refine gtr_at ?_ | refine geq_at ?_ | refine add_at (by omega) (by omega) ?_ | refine sub_at (by omega) (by omega) ?_ | refine not_at ?_ | refine kO_at ?_ | refine kprt_at rfl ?_ | refine kprtN_at rfl ?_ | refine kcap_at ?_ | refine klenStr_at ?_ | refine kN_iat ?_ | refine kN_fat ?_ | refine kIf_T (by first | exact rfl | exact decT (by omega) | exact notT (decF (by omega))) ?_ | refine kIf_F (by first | exact rfl | exact decF (by omega) | exact notF (decT (by omega))) ?_)
  refine ksl_sl_lo (by omega) hccap (by omega) ?_
  rw [show rows.length * wd - L * wd = wd by omega, Nat.mul_one, Nat.zero_add]
  have hsl : SlIs w16 (some ⟨bc, L * wd, none⟩) wd 1 (cellsF wd rows[L]) := ⟨by rw [cellsF_len hwd4]; omega, .inr ⟨bc, L * wd, arr, tc, _, rfl, hv16.cells, by rw [Nat.mul_one]; exact hlast⟩⟩
  refine ksem_copy sl1I hv16.cells hsl (ones_nV _) (by rw [show min wd wd = wd by omega]; omega) fun w29 h29 hs29 hb29 => ?_
  rw [show min wd wd = wd by omega, show (cellsF wd rows[L]).take wd = cellsF wd rows[L] from List.take_of_length_le (by rw [cellsF_len hwd4]; omega)] at hb29
  have hcol29 : blk w29.drew b = _ := h29.get hcol16 (fun e => nbc e.symm)
  have htk29 : blk w29.drew bt = _ := h29.get hv16.ticks (fun e => nct e.symm)
  have hb29 : blk w29.drew bc = _ := hb29
  have hp29 : blk w29.drew w13.heap.size = _ := h29.get hb16 (by omega)
  have hz29 : blk w29.drew w.heap.size = _ := h29.get hz16 (by omega)
  have h29 : Mod (fun k => k = bc) w16 w29.drew := h29.drew
  generalize w29.drew = wa at *
  repeat (first | refine kN_at ?_ | refine kB_at ?_ | refine kfld_of ?_ | refine kext_at rfl ?_ | refine kld_at hcol29 rfl ?_ | refine kldN_at hcol29 rfl (by omega) ?_ | refine kG_of (by first | exact rfl | omega) ?_ | refine klen_at ?_ | refine eql_at ?_ | refine neq_at ?_ | refine lss_at ?_ | refine leq_at ?_ | refine gtr_at ?_ | refine geq_at ?_ | refine add_at (by omega) (by omega) ?_ | refine sub_at (by omega) (by omega) ?_ | refine not_at ?_ | refine kO_at ?_ | refine kprt_at rfl ?_ | refine kprtN_at rfl ?_ | refine kcap_at ?_ | refine klenStr_at ?_ | refine kN_iat ?_ | refine kN_fat ?_ | refine kIf_T (by first | exact rfl | exact decT (by omega) | exact notT (decF (by omega))) ?_ | refine kIf_F (by first | exact rfl | exact decF (by omega) | exact notF (decT (by omega))) ?_)
  rw [kix_slice]
  refine kG_of (by omega) ?_
  rw [add_mk]
  refine kld_of (v := nV rows[L].tick) htk29 (by simpa using htl) ?_
  refine kG_of rfl ?_
  rw [kix_slice]
  refine kG_of (by omega) ?_
  rw [add_mk]
  refine kst_of (vs := [nV rows[L].tick]) htk29 rfl rfl rfl (by simp; omega) (by simp) fun w37 h37 hs37 hb37 => ?_
  have hcol37 : blk w37.drew b = _ := h37.get hcol29 (fun e => nbt e.symm)
  have hb37 : blk w37.drew bt = _ := hb37
  have hc37 : blk w37.drew bc = _ := h37.get hb29 nct
  have hp37 : blk w37.drew w13.heap.size = _ := h37.get hp29 (by omega)
  have hz37 : blk w37.drew w.heap.size = _ := h37.get hz29 (by omega)
  have h37 : Mod (fun k => k = bt) wa w37.drew := h37.drew
  generalize w37.drew = wc at *
  repeat (first | refine kN_at ?_ | refine kB_at ?_ | refine kfld_of ?_ | refine kext_at rfl ?_ | refine kld_at hcol37 rfl ?_ | refine kldN_at hcol37 rfl (by omega) ?_ | refine kG_of (by first | exact rfl | omega) ?_ | refine klen_at ?_ | refine eql_at ?_ | refine neq_at ?_ | refine lss_at ?_ | refine leq_at ?_ | refine gtr_at ?_ | refine geq_at ?_ | refine add_at (by omega) (by omega) ?_ | refine sub_at (by omega) (by omega) ?_ | refine not_at ?_ | refine kO_at ?_ | refine kprt_at rfl ?_ | refine kprtN_at rfl ?_ | refine kcap_at ?_ | refine klenStr_at ?_ | refine kN_iat ?_ | refine kN_fat ?_ | refine kIf_T (by first | exact rfl | exact decT (by omega) | exact notT (decF (by omega))) ?_ | refine kIf_F (by first | exact rfl | exact decF (by omega) | exact notF (decT (by omega))) ?_)
  refine ksl_sl_hi (by omega) ?_
  repeat (first | refine kN_at ?_ | refine kB_at ?_ | refine kfld_of ?_ | refine kext_at rfl ?_ | refine kld_at hcol37 rfl ?_ | refine kldN_at hcol37 rfl (by omega) ?_ | refine kG_of (by first | exact rfl | omega) ?_ | refine klen_at ?_ | refine eql_at ?_ | refine neq_at ?_ | refine lss_at ?_ | refine leq_at ?_ | refine gtr_at ?_ | refine geq_at ?_ | refine add_at (by omega) (by omega) ?_ | refine sub_at (by omega) (by omega) ?_ | refine not_at ?_ | refine kO_at ?_ | refine kprt_at rfl ?_ | refine kprtN_at rfl ?_ | refine kcap_at ?_ | refine klenStr_at ?_ | refine kN_iat ?_ | refine kN_fat ?_ | refine kIf_T (by first | exact rfl | exact decT (by omega) | exact notT (decF (by omega))) ?_ | refine kIf_F (by first | exact rfl | exact decF (by omega) | exact notF (decT (by omega))) ?_)
  refine ksl_sl_hi (by omega) ?_
  repeat (first | refine kN_at ?_ | refine kB_at ?_ | refine kfld_of ?_ | refine kext_at rfl ?_ | refine kG_of (by first | exact rfl | omega) ?_ | refine klen_at ?_ | refine eql_at ?_ | refine neq_at ?_ | refine lss_at ?_ | refine leq_at ?_ | refine gtr_at ?_ | refine geq_at ?_ | refine add_at (by omega) (by omega) ?_ | refine sub_at (by omega) (by omega) ?_ | refine not_at ?_ | refine kO_at ?_ | refine kprt_at rfl ?_ | refine kprtN_at rfl ?_ | refine kcap_at ?_ | refine klenStr_at ?_ | refine kN_iat ?_ | refine kN_fat ?_ | refine kIf_T (by first | exact rfl | exact decT (by omega) | exact notT (decF (by omega))) ?_ | refine kIf_F (by first | exact rfl | exact decF (by omega) | exact notF (decT (by omega))) ?_)
  refine kst1_of hcol37 rfl rfl (by simp) fun w45 h45 hs45 hb45 => ?_
  simp only [List.setIfInBounds_toArray, List.set_cons_succ, List.set_cons_zero] at hb45
  repeat (first | refine kN_at ?_ | refine kB_at ?_ | refine kfld_of ?_ | refine kext_at rfl ?_ | refine kG_of (by first | exact rfl | omega) ?_ | refine klen_at ?_ | refine eql_at ?_ | refine neq_at ?_ | refine lss_at ?_ | refine leq_at ?_ | refine gtr_at ?_ | refine geq_at ?_ | refine add_at (by omega) (by omega) ?_ | refine sub_at (by omega) (by omega) ?_ | refine not_at ?_ | refine kO_at ?_ | refine kprt_at rfl ?_ | refine kprtN_at rfl ?_ | refine kcap_at ?_ | refine klenStr_at ?_ | refine kN_iat ?_ | refine kN_fat ?_ | refine kIf_T (by first | exact rfl | exact decT (by omega) | exact notT (decF (by omega))) ?_ | refine kIf_F (by first | exact rfl | exact decF (by omega) | exact notF (decT (by omega))) ?_)
  refine kst1_of hb45 rfl rfl (by simp) fun w47 h47 hs47 hb47 => ?_
  simp only [List.setIfInBounds_toArray, List.set_cons_succ, List.set_cons_zero] at hb47
  have hp47 := h47.get (h45.get hp37 (by omega)) (by omega)
  have hz47 := h47.get (h45.get hz37 (by omega)) (by omega)
  have hc47 := h47.get (h45.get hc37 nbc) nbc
  have ht47 := h47.get (h45.get hb37 nbt) nbt
  repeat (first | refine kN_at ?_ | refine kB_at ?_ | refine kfld_of ?_ | refine kext_at rfl ?_ | refine kld_at hp47 rfl ?_ | refine kldN_at hp47 rfl (by omega) ?_ | refine kG_of (by first | exact rfl | omega) ?_ | refine klen_at ?_ | refine eql_at ?_ | refine neq_at ?_ | refine lss_at ?_ | refine leq_at ?_ | refine gtr_at ?_ | refine geq_at ?_ | refine add_at (by omega) (by omega) ?_ | refine sub_at (by omega) (by omega) ?_ | refine not_at ?_ | refine kO_at ?_ | refine kprt_at rfl ?_ | refine kprtN_at rfl ?_ | refine kcap_at ?_ | refine klenStr_at ?_ | refine kN_iat ?_ | refine kN_fat ?_ | refine kIf_T (by first | exact rfl | exact decT (by omega) | exact notT (decF (by omega))) ?_ | refine kIf_F (by first | exact rfl | exact decF (by omega) | exact notF (decT (by omega))) ?_)
  refine kst_of (vs := rows[n].cells) hz47 rfl rfl rfl (by simp) (by simp [Part.cells]) fun w49 h49 hs49 hb49 => ?_
  have hb49 : blk w49 w.heap.size = some (.cells rows[n].cells.toArray 49) := hb49
  repeat (first | refine kN_at ?_ | refine kB_at ?_ | refine kfld_of ?_ | refine kext_at rfl ?_ | refine kld_at hb49 rfl ?_ | refine kldN_at hb49 rfl (by omega) ?_ | refine kG_of (by first | exact rfl | omega) ?_ | refine klen_at ?_ | refine eql_at ?_ | refine neq_at ?_ | refine lss_at ?_ | refine leq_at ?_ | refine gtr_at ?_ | refine geq_at ?_ | refine add_at (by omega) (by omega) ?_ | refine sub_at (by omega) (by omega) ?_ | refine not_at ?_ | refine kO_at ?_ | refine kprt_at rfl ?_ | refine kprtN_at rfl ?_ | refine kcap_at ?_ | refine klenStr_at ?_ | refine kN_iat ?_ | refine kN_fat ?_ | refine kIf_T (by first | exact rfl | exact decT (by omega) | exact notT (decF (by omega))) ?_ | refine kIf_F (by first | exact rfl | exact decF (by omega) | exact notF (decT (by omega))) ?_)
  have hcF := h49.get hc47 (by omega)
  have htF : blk w49 bt = some (.cells (setAll [tickV rows[L]] arrt n) tt) := by
    have := h49.get ht47 (by omega)
    rw [Int.toNat_natCast, Nat.mul_one, Nat.zero_add] at this
    exact this
  have hcolF := h49.get hb47 (by omega)
  have hm : Mod (fun k => k = b ∨ k = bc ∨ k = bt) w w49 := by
    have a1 : Mod (fun k => k = b ∨ k = bc ∨ k = bt) w w47 := (Mod.of_same m16).trans ((h29.mono fun k _ e => .inr (.inl e)).trans ((h37.mono fun k _ e => .inr (.inr e)).trans ((h45.mono fun k _ e => .inl e).trans (h47.mono fun k _ e => .inl e))))
    exact a1.trans' (h49.mono fun k _ e => .inr (by omega))
  refine ⟨rfl, ?_, hm.mono fun k _ e => ?_⟩
  · have e1 := takeRow_eq (rows := rows) (by omega) n
    simp only [show rows.length - 1 = L by omega] at e1
    rw [e1]
    have hok := rows_set_ok (n := n) hrows (hrows _ (List.getElem_mem hLlt))
    have q1 := hO1.put (us := cellsF wd rows[L]) (j := n * wd) hv.cells hcF (by rw [flat_len _ wd (cellsF_len hwd4), cellsF_len hwd4]; omega)
    have q2 := hO2.put (us := [tickV rows[L]]) (j := n) hv.ticks htF (by simp; omega)
    rw [cellsF_len hwd4, ← flat_set (cellsF_len hwd4) rows n _ hn] at q1
    have eset : (rows.map tickV).set n (tickV rows[L]) = (rows.map tickV).take n ++ [tickV rows[L]] ++ (rows.map tickV).drop (n + 1) := by
      rw [List.set_eq_take_append_cons_drop, if_pos (by simpa using hn)]; simp
    rw [show n + [tickV rows[L]].length = n + 1 from rfl, ← eset, ← List.map_set] at q2
    refine ⟨hlab, hwd1, hwd4, hc16, by simp; omega, fun p hp => hok p (List.mem_of_mem_take hp), _, _, hcolF, ?_, ?_, ?_, ?_⟩
    · rw [flat_take (cellsF_len hwd4)]
      have := q1.cutN (k := L * wd) (by omega)
      rw [Nat.mul_one] at this
      exact this
    · rw [List.map_take]
      have := q2.cutN (k := L) (by omega)
      rw [Nat.mul_one] at this
      exact this
    · rintro k ⟨_, _, _, e⟩; cases e; exact hbcl
    · rintro k ⟨_, _, _, e⟩; cases e; exact hbtl
  · rcases e with rfl | rfl | rfl
    · exact ⟨_, hlab, .inl rfl⟩
    · exact ⟨_, hbcl, .inr (.inl rfl)⟩
    · exact ⟨_, hbtl, .inr (.inr rfl)⟩
/-! ### Since -/
def sinceL (frame : Int) (rows : List Part) : List Nat := (rows.zipIdx.filter fun x => decide (frame ≤ x.1.tick)).map (·.2)
theorem sinceL_snoc (frame : Int) (rows : List Part) (i : Nat) (h : i < rows.length) : sinceL frame (rows.take (i + 1)) = if frame ≤ rows[i].tick then sinceL frame (rows.take i) ++ [i] else sinceL frame (rows.take i) := by
  unfold sinceL
  rw [List.take_add_one, List.getElem?_eq_getElem h, List.zipIdx_append]
  have hl : (rows.take i).length = i := by rw [List.length_take]; omega
  by_cases hc : frame ≤ rows[i].tick
  · simp [hc, hl]
  · simp [hc]
theorem sinceL_len (frame : Int) (rows : List Part) : (sinceL frame rows).length ≤ rows.length := by
  unfold sinceL
  rw [List.length_map]
  have := List.length_filter_le (fun x : Part × Nat => decide (frame ≤ x.1.tick)) rows.zipIdx
  simpa using this
theorem cSince_spec {o : Lab} {w : World} {b i c wd : Nat} {rows : List Part} (h : ColAt o w b i c wd rows) (frame : Int) :
    Meets Tryz.prog 100 #[.pointer (some ⟨b, 0, none⟩), .int .i64 frame] w fun v w' => Own w' v 1 ((sinceL frame rows).map natV) ∧ Same w w' ∧ (∀ k, vblk v k → w.heap.size ≤ k) := by
  obtain ⟨h1, h2, h3, h4, h5, h6, cv, tv, hb, hc, ht, hcl, htl⟩ := id h
  obtain ⟨ta, tn, tcp, rfl, hts, htn⟩ := ht.is
  have htn : tn = rows.length := by simpa using htn rfl
  subst htn
  refine f100_ok ?_
  unfold f100
  rw [keq_ptr_nil ptCol]
  repeat (first | refine kN_at ?_ | refine kB_at ?_ | refine kfld_of ?_ | refine kext_at rfl ?_ | refine kld_at hb rfl ?_ | refine kldN_at hb rfl (by omega) ?_ | refine kG_of (by first | exact rfl | omega) ?_ | refine klen_at ?_ | refine eql_at ?_ | refine neq_at ?_ | refine lss_at ?_ | refine leq_at ?_ | refine gtr_at ?_ | refine geq_at ?_ | refine add_at (by omega) (by omega) ?_ | refine sub_at (by omega) (by omega) ?_ | refine not_at ?_ | refine kO_at ?_ | refine kprt_at rfl ?_ | refine kprtN_at rfl ?_ | refine kcap_at ?_ | refine klenStr_at ?_ | refine kN_iat ?_ | refine kN_fat ?_ | refine kIf_T (by first | exact rfl | exact decT (by omega) | exact notT (decF (by omega))) ?_ | refine kIf_F (by first | exact rfl | exact decF (by omega) | exact notF (decT (by omega))) ?_)
  refine kL2_of rows.length (fun j x y wr => y = .int .i64 j ∧ Own wr x 1 ((sinceL frame (rows.take j)).map natV) ∧ Same w wr ∧ (∀ k, vblk x k → w.heap.size ≤ k)) ⟨lI2_0 ⟨rfl, Own.nil _ _, Mod.refl _ _, fun k hk => by obtain ⟨_, _, _, e⟩ := hk; cases e⟩, fun x y wr hx => ?_⟩
  obtain ⟨j, hj, ⟨rfl, hO, hm, hf⟩, hJ⟩ := lI2_step hx
  unfold f100_1
  refine lss_at ?_
  refine kB_at ?_
  refine kIf_dec (fun hlt => ?_) (fun hge => ?_)
  · have hlt : j < rows.length := by omega
    have hlen := sinceL_len frame (rows.take j)
    rw [List.length_take] at hlen
    unfold f100_2
    refine kixld_of (F := tickV) (hts.same hm) hlt rfl ?_
    refine geq_at ?_
    refine kB_at ?_
    refine kIf_dec (fun hge => ?_) (fun hge => ?_)
    · refine kbldS_of (cs := [natV j]) rfl fun w5 h5' hs5 hb5 => ?_
      refine ksem_append apInt (by omega) (hO.same h5') (Src.ofSlIs (hk := slInt_is.choose_spec) 1 (SlIs.blk hb5 rfl) rfl) (by simp; omega) (by simp; omega) ?_
      intro v' w7 ho7 hm7 hf7
      repeat (first | refine kN_at ?_ | refine kB_at ?_ | refine kfld_of ?_ | refine kext_at rfl ?_ | refine kG_of (by first | exact rfl | omega) ?_ | refine klen_at ?_ | refine eql_at ?_ | refine neq_at ?_ | refine lss_at ?_ | refine leq_at ?_ | refine gtr_at ?_ | refine geq_at ?_ | refine add_at (by omega) (by omega) ?_ | refine sub_at (by omega) (by omega) ?_ | refine not_at ?_ | refine kO_at ?_ | refine kprt_at rfl ?_ | refine kprtN_at rfl ?_ | refine kcap_at ?_ | refine klenStr_at ?_ | refine kN_iat ?_ | refine kN_fat ?_ | refine kIf_T (by first | exact rfl | exact decT (by omega) | exact notT (decF (by omega))) ?_ | refine kIf_F (by first | exact rfl | exact decF (by omega) | exact notF (decT (by omega))) ?_)
      rw [cast_succ]
      refine hJ _ _ _ hlt ⟨rfl, ?_, Mod.after (hm.trans h5') hm7 hf, fun k hk => ?_⟩
      · rw [sinceL_snoc frame rows j hlt, if_pos hge, List.map_append]
        exact ho7
      · rcases hf7 k hk with h | h
        · exact hf k h
        · have := hm.size; have := h5'.size; omega
    · repeat (first | refine kN_at ?_ | refine kB_at ?_ | refine kfld_of ?_ | refine kext_at rfl ?_ | refine kG_of (by first | exact rfl | omega) ?_ | refine klen_at ?_ | refine eql_at ?_ | refine neq_at ?_ | refine lss_at ?_ | refine leq_at ?_ | refine gtr_at ?_ | refine geq_at ?_ | refine add_at (by omega) (by omega) ?_ | refine sub_at (by omega) (by omega) ?_ | refine not_at ?_ | refine kO_at ?_ | refine kprt_at rfl ?_ | refine kprtN_at rfl ?_ | refine kcap_at ?_ | refine klenStr_at ?_ | refine kN_iat ?_ | refine kN_fat ?_ | refine kIf_T (by first | exact rfl | exact decT (by omega) | exact notT (decF (by omega))) ?_ | refine kIf_F (by first | exact rfl | exact decF (by omega) | exact notF (decT (by omega))) ?_)
      rw [cast_succ]
      refine hJ _ _ _ hlt ⟨rfl, ?_, hm, hf⟩
      rw [sinceL_snoc frame rows j hlt, if_neg hge]
      exact hO
  · have : j = rows.length := by omega
    subst this
    rw [List.take_length] at hO
    unfold f100_4
    exact ⟨hO, hm, hf⟩
theorem cSinceNil_spec (w : World) (frame : Int) : Meets Tryz.prog 100 #[.pointer none, .int .i64 frame] w fun v w' => v = .slice none 0 0 ∧ w' = w := by
  refine f100_ok ?_
  unfold f100
  rw [keq_ptr_nil ptCol]
  repeat (first | refine kN_at ?_ | refine kB_at ?_ | refine kfld_of ?_ | refine kext_at rfl ?_ | refine kG_of (by first | exact rfl | omega) ?_ | refine klen_at ?_ | refine eql_at ?_ | refine neq_at ?_ | refine lss_at ?_ | refine leq_at ?_ | refine gtr_at ?_ | refine geq_at ?_ | refine add_at (by omega) (by omega) ?_ | refine sub_at (by omega) (by omega) ?_ | refine not_at ?_ | refine kO_at ?_ | refine kprt_at rfl ?_ | refine kprtN_at rfl ?_ | refine kcap_at ?_ | refine klenStr_at ?_ | refine kN_iat ?_ | refine kN_fat ?_ | refine kIf_T (by first | exact rfl | exact decT (by omega) | exact notT (decF (by omega))) ?_ | refine kIf_F (by first | exact rfl | exact decF (by omega) | exact notF (decT (by omega))) ?_)
  exact ⟨rfl, rfl⟩
end Go.Proofs.YtlkpadfkmdgjcaaGreatDoor
end
section
set_option linter.unusedSimpArgs false
set_option linter.unusedVariables false
namespace Go.Proofs.YtlkpadfkmdgjcaaGreatDoor
open Go Go.Ev
set_option linter.unusedVariables false
set_option maxRecDepth 100000

/-! pasodoble/roll.New -/
def f69_4 (x4 : Value) (x18 : Value) (x19 : Value) (J5 : Value → World → Prop) (Q : Value → World → Prop) (w : World) : Prop :=
  kint .i64 .add x19 (.int .i64 1) fun v21 =>
  J5 v21 w

def f69_3 (x4 : Value) (x18 : Value) (x19 : Value) (J5 : Value → World → Prop) (Q : Value → World → Prop) (w : World) : Prop :=
  kN x4 <|
  kfld 1 x4 fun v13 =>
  kld v13 w fun v14 =>
  kbldS [(.int .i64 0)] 1 [(0, 1, x19)] 3 w fun v15 w16 =>
  ksem Tryz.prog (Builtin.append_ #[105, 105] 0 #[v14, v15]) w16 fun v17 w18 =>
  kN x4 <|
  kfld 1 x4 fun v19 =>
  kst 1 v19 v17 w18 fun w20 =>
  f69_4 x4 x18 x19 J5 Q w20

def f69_5 (x4 : Value) (Q : Value → World → Prop) (w : World) : Prop :=
  kN x4 <|
  kfld 1 x4 fun v22 =>
  kld v22 w fun v23 =>
  kcall Tryz.prog 133 #[v23] w fun v24 w25 =>
  Q (.tuple #[x4, .nilIface]) w25

def f69_2 (x19 : Value) (x4 : Value) (x18 : Value) (J5 : Value → World → Prop) (Q : Value → World → Prop) (w : World) : Prop :=
  kint .i64 .lss x19 x18 fun v12 =>
  kB v12 fun b26 => kIf b26
  (f69_3 x4 x18 x19 J5 Q w)
  (f69_5 x4 Q w)

def f69_1 (x0 : Value) (Q : Value → World → Prop) (w : World) : Prop :=
  kmk (.agg #[(.int .i64 0), (.bool false)]) 16 230 x0 x0 w fun v7 w8 =>
  kbld [(.slice none 0 0), (.slice none 0 0)] [(0, 1, v7)] fun v9 =>
  knew (Value.cells v9) 220 w8 fun v10 w11 =>
  kL fun (I : Value → World → Prop) (μ : Value → World → Nat) => I (.int .i64 0) w11 ∧ ∀ (x19 : Value) (w1 : World), I x19 w1 →
  f69_2 x19 v10 x0 (fun y19 w2 => I y19 w2 ∧ μ y19 w2 < μ x19 w1) Q w1

def f69_0 (x0 : Value) (x11 : Value) (Q : Value → World → Prop) (w : World) : Prop :=
  kB x11 fun b27 => kIf b27
  (kld (.pointer (some ⟨5, 0, none⟩)) w fun v4 =>
  kcall Tryz.prog 132 #[(.string ⟨#[114, 111, 108, 108]⟩), v4] w fun v5 w6 =>
  Q (.tuple #[(.pointer none), v5]) w6)
  (f69_1 x0 Q w)

def f69 (x0 : Value) (Q : Value → World → Prop) (w : World) : Prop :=
  kint .i64 .lss x0 (.int .i64 0) fun v1 =>
  kB v1 fun b2 => kIf (!b2)
  (kint .i64 .gtr x0 (.int .i64 64) fun v3 =>
  f69_0 x0 v3 Q w)
  (f69_0 x0 (.bool true) Q w)

theorem f69_eq (x0 : Value) (Q : Value → World → Prop) (w : World) : f69 x0 Q w = fnVC Tryz.prog Tryz.f69 [(5, [19])] (Tryz.f69.body.get rfl) [x0] w Q := by kernel_rfl
theorem f69_ok {x0 : Value} {Q : Value → World → Prop} {w : World} (h : f69 x0 Q w) : Meets Tryz.prog 69 #[x0] w Q :=
  sound (c := (Tryz.f69.body.get rfl)) [(5, [19])] Tryz.func69 rfl rfl (args := [x0]) rfl (Eq.mp (f69_eq x0 Q w) h)

/-! (*pasodoble/roll.Roll).Take -/
def f75_1 (x0 : Value) (x2 : Value) (x4 : Value) (Q : Value → World → Prop) (w : World) : Prop :=
  kN x0 <|
  kfld 1 x0 fun v23 =>
  kld v23 w fun v24 =>
  kix (some (.slice 3)) (some 1) v24 x4 fun v25 =>
  kld v25 w fun v26 =>
  kN x0 <|
  kfld 1 x0 fun v27 =>
  kld v27 w fun v28 =>
  ksl (some (.slice 3)) (some 1) v28 none (some x4) fun v29 =>
  kN x0 <|
  kfld 1 x0 fun v30 =>
  kst 1 v30 v29 w fun w31 =>
  kN x0 <|
  kfld 0 x0 fun v32 =>
  kld v32 w31 fun v33 =>
  kix (some (.slice 230)) (some 2) v33 v26 fun v34 =>
  kN v34 <|
  kfld 0 v34 fun v35 =>
  kld v35 w31 fun v36 =>
  kint .i64 .add v36 (.int .i64 1) fun v37 =>
  kN v34 <|
  kfld 0 v34 fun v38 =>
  kst 1 v38 v37 w31 fun w39 =>
  kN v34 <|
  kfld 1 v34 fun v40 =>
  kst 1 v40 (.bool true) w39 fun w41 =>
  kN v34 <|
  kfld 0 v34 fun v42 =>
  kld v42 w41 fun v43 =>
  kbld [(.int .i64 0), (.int .i64 0)] [(0, 1, v26), (1, 1, v43)] fun v44 =>
  kst 2 x2 v44 w41 fun w45 =>
  kldN 2 x2 w45 fun v46 =>
  Q (.tuple #[v46, .nilIface]) w45

def f75_0 (x0 : Value) (x2 : Value) (Q : Value → World → Prop) (w : World) : Prop :=
  kN x0 <|
  kfld 1 x0 fun v11 =>
  kld v11 w fun v12 =>
  klen v12 fun v13 =>
  kint .i64 .sub v13 (.int .i64 1) fun v15 =>
  kint .i64 .lss v15 (.int .i64 0) fun v16 =>
  kB v16 fun b47 => kIf b47
  (kbld [(.int .i64 0), (.int .i64 0)] [] fun v17 =>
  kld (.pointer (some ⟨2, 0, none⟩)) w fun v18 =>
  kcall Tryz.prog 132 #[(.string ⟨#[114, 111, 108, 108]⟩), v18] w fun v19 w20 =>
  kst 2 x2 v17 w20 fun w21 =>
  kldN 2 x2 w21 fun v22 =>
  Q (.tuple #[v22, v19]) w21)
  (f75_1 x0 x2 v15 Q w)

def f75 (x0 : Value) (Q : Value → World → Prop) (w : World) : Prop :=
  knew #[(.int .i64 0), (.int .i64 0)] 37 w fun v1 w2 =>
  keq Tryz.prog .eql 124 false true x0 (.pointer none) w2 fun v3 w4 =>
  kB v3 fun b48 => kIf b48
  (kbld [(.int .i64 0), (.int .i64 0)] [] fun v5 =>
  kld (.pointer (some ⟨4, 0, none⟩)) w4 fun v6 =>
  kcall Tryz.prog 132 #[(.string ⟨#[114, 111, 108, 108]⟩), v6] w4 fun v7 w8 =>
  kst 2 v1 v5 w8 fun w9 =>
  kldN 2 v1 w9 fun v10 =>
  Q (.tuple #[v10, v7]) w9)
  (f75_0 x0 v1 Q w4)

theorem f75_eq (x0 : Value) (Q : Value → World → Prop) (w : World) : f75 x0 Q w = fnVC Tryz.prog Tryz.f75 [] (Tryz.f75.body.get rfl) [x0] w Q := by kernel_rfl
theorem f75_ok {x0 : Value} {Q : Value → World → Prop} {w : World} (h : f75 x0 Q w) : Meets Tryz.prog 75 #[x0] w Q :=
  sound (c := (Tryz.f75.body.get rfl)) [] Tryz.func75 rfl rfl (args := [x0]) rfl (Eq.mp (f75_eq x0 Q w) h)

/-! (*pasodoble/roll.Roll).Alive -/
def f99_1 (x0 : Value) (x3 : Value) (Q : Value → World → Prop) (w : World) : Prop :=
  kN x0 <|
  kfld 0 x0 fun v17 =>
  kld v17 w.drew fun v18 =>
  kG (w.drew = w.drew) <|
  kfld 0 x3 fun v19 =>
  kld v19 w.drew fun v20 =>
  kG (w.drew = w.drew) <|
  kix (some (.slice 230)) (some 2) v18 v20 fun v21 =>
  kldN 2 v21 w.drew fun v22 =>
  kG (w.drew = w.drew) <|
  knew #[(.int .i64 0), (.bool false)] 230 w.drew fun v23 w24 =>
  kG (kldN 2 v21 w24 fun v36 =>
  v36 = v22 ∧ w24 = w24) <|
  kG (kld v19 w24 fun v35 =>
  v35 = v20 ∧ w24 = w24) <|
  kG (kld v17 w24 fun v34 =>
  v34 = v18 ∧ w24 = w24) <|
  kst 2 v23 v22 w24 fun w25 =>
  kfld 1 v23 fun v26 =>
  kld v26 w25 fun v27 =>
  kB v27 fun b28 => kIf b28
  (kfld 0 v23 fun v29 =>
  kld v29 w25 fun v30 =>
  kfld 1 x3 fun v31 =>
  kld v31 w25 fun v32 =>
  kint .i64 .eql v30 v32 fun v33 =>
  Q v33 w25)
  (Q (.bool false) w25)

def f99_0 (x0 : Value) (x3 : Value) (x22 : Value) (Q : Value → World → Prop) (w : World) : Prop :=
  kB x22 fun b37 => kIf b37
  (Q (.bool false) w)
  (f99_1 x0 x3 Q w)

def f99 (x0 : Value) (x1 : Value) (Q : Value → World → Prop) (w : World) : Prop :=
  knew (Value.cells x1) 37 w fun v1 w2 =>
  keq Tryz.prog .eql 124 false true x0 (.pointer none) w2.drew fun v3 w4 =>
  kG (w4 = w2.drew) <|
  kB v3 fun b5 => kIf (!b5)
  (kfld 0 v1 fun v6 =>
  kld v6 w4 fun v7 =>
  kG (w4 = w4) <|
  kint .i64 .lss v7 (.int .i64 0) fun v8 =>
  kB v8 fun b9 => kIf (!b9)
  (kfld 0 v1 fun v10 =>
  kld v10 w4 fun v11 =>
  kG (w4 = w4) <|
  kN x0 <|
  kfld 0 x0 fun v12 =>
  kld v12 w4 fun v13 =>
  kG (w4 = w4) <|
  klen v13 fun v14 =>
  kint .i64 .geq v11 v14 fun v16 =>
  f99_0 x0 v1 v16 Q w4)
  (f99_0 x0 v1 (.bool true) Q w4))
  (f99_0 x0 v1 (.bool true) Q w4)

theorem f99_eq (x0 : Value) (x1 : Value) (Q : Value → World → Prop) (w : World) : f99 x0 x1 Q w = fnVC Tryz.prog Tryz.f99 [] (Tryz.f99.body.get rfl) [x0, x1] w Q := by kernel_rfl
theorem f99_ok {x0 : Value} {x1 : Value} {Q : Value → World → Prop} {w : World} (h : f99 x0 x1 Q w) : Meets Tryz.prog 99 #[x0, x1] w Q :=
  sound (c := (Tryz.f99.body.get rfl)) [] Tryz.func99 rfl rfl (args := [x0, x1]) rfl (Eq.mp (f99_eq x0 x1 Q w) h)

/-! (*pasodoble/roll.Roll).Free -/
def f97_0 (x0 : Value) (x3 : Value) (Q : Value → World → Prop) (w : World) : Prop :=
  kN x0 <|
  kfld 0 x0 fun v15 =>
  kld v15 w.drew fun v16 =>
  kG (w.drew = w.drew) <|
  kfld 0 x3 fun v17 =>
  kld v17 w.drew fun v18 =>
  kG (w.drew = w.drew) <|
  kix (some (.slice 230)) (some 2) v16 v18 fun v19 =>
  kfld 1 v19 fun v20 =>
  kst 1 v20 (.bool false) w.drew fun w21 =>
  kN x0 <|
  kfld 1 x0 fun v22 =>
  kld v22 w21.drew fun v23 =>
  kG (w21.drew = w21.drew) <|
  kfld 0 x3 fun v24 =>
  kld v24 w21.drew fun v25 =>
  kG (w21.drew = w21.drew) <|
  kbldS [(.int .i64 0)] 1 [(0, 1, v25)] 3 w21.drew fun v26 w27 =>
  kG (kld v22 w27 fun v32 =>
  v32 = v23 ∧ w27 = w27) <|
  ksem Tryz.prog (Builtin.append_ #[105, 105] 0 #[v23, v26]) w27 fun v28 w29 =>
  kN x0 <|
  kfld 1 x0 fun v30 =>
  kst 1 v30 v28 w29 fun w31 =>
  Q .nilIface w31

def f97 (x0 : Value) (x1 : Value) (Q : Value → World → Prop) (w : World) : Prop :=
  knew (Value.cells x1) 37 w fun v1 w2 =>
  keq Tryz.prog .eql 124 false true x0 (.pointer none) w2 fun v3 w4 =>
  kB v3 fun b34 => kIf b34
  (kld (.pointer (some ⟨4, 0, none⟩)) w4 fun v5 =>
  kcall Tryz.prog 132 #[(.string ⟨#[114, 111, 108, 108]⟩), v5] w4 fun v6 w7 =>
  Q v6 w7)
  (kldN 2 v1 w4 fun v8 =>
  kcall Tryz.prog 99 #[x0, v8] w4 fun v9 w10 =>
  kun .not (some .bool) v9 fun v11 =>
  kB v11 fun b33 => kIf b33
  (kld (.pointer (some ⟨3, 0, none⟩)) w10 fun v12 =>
  kcall Tryz.prog 132 #[(.string ⟨#[114, 111, 108, 108]⟩), v12] w10 fun v13 w14 =>
  Q v13 w14)
  (f97_0 x0 v1 Q w10))

theorem f97_eq (x0 : Value) (x1 : Value) (Q : Value → World → Prop) (w : World) : f97 x0 x1 Q w = fnVC Tryz.prog Tryz.f97 [] (Tryz.f97.body.get rfl) [x0, x1] w Q := by kernel_rfl
theorem f97_ok {x0 : Value} {x1 : Value} {Q : Value → World → Prop} {w : World} (h : f97 x0 x1 Q w) : Meets Tryz.prog 97 #[x0, x1] w Q :=
  sound (c := (Tryz.f97.body.get rfl)) [] Tryz.func97 rfl rfl (args := [x0, x1]) rfl (Eq.mp (f97_eq x0 x1 Q w) h)

/-! (*pasodoble/roll.Roll).Count -/
def f80_0 (x0 : Value) (Q : Value → World → Prop) (w : World) : Prop :=
  kN x0 <|
  kfld 0 x0 fun v3 =>
  kld v3 w.drew fun v4 =>
  kG (w.drew = w.drew) <|
  klen v4 fun v5 =>
  kN x0 <|
  kfld 1 x0 fun v7 =>
  kld v7 w.drew fun v8 =>
  kG (w.drew = w.drew) <|
  klen v8 fun v9 =>
  kint .i64 .sub v5 v9 fun v11 =>
  Q v11 w.drew

def f80 (x0 : Value) (Q : Value → World → Prop) (w : World) : Prop :=
  keq Tryz.prog .eql 124 false true x0 (.pointer none) w fun v1 w2 =>
  kB v1 fun b12 => kIf b12
  (Q (.int .i64 0) w2)
  (f80_0 x0 Q w2)

theorem f80_eq (x0 : Value) (Q : Value → World → Prop) (w : World) : f80 x0 Q w = fnVC Tryz.prog Tryz.f80 [] (Tryz.f80.body.get rfl) [x0] w Q := by kernel_rfl
theorem f80_ok {x0 : Value} {Q : Value → World → Prop} {w : World} (h : f80 x0 Q w) : Meets Tryz.prog 80 #[x0] w Q :=
  sound (c := (Tryz.f80.body.get rfl)) [] Tryz.func80 rfl rfl (args := [x0]) rfl (Eq.mp (f80_eq x0 Q w) h)

/-! slices.Reverse[[]int,int] -/
def f133_2 (x0 : Value) (x2 : Value) (x3 : Value) (J1 : Value → Value → World → Prop) (Q : Value → World → Prop) (w : World) : Prop :=
  kint .i64 .add x2 (.int .i64 1) fun v13 =>
  kint .i64 .sub x3 (.int .i64 1) fun v14 =>
  J1 v13 v14 w

def f133_1 (x0 : Value) (x2 : Value) (x3 : Value) (J1 : Value → Value → World → Prop) (Q : Value → World → Prop) (w : World) : Prop :=
  kix (some (.slice 3)) (some 1) x0 x3 fun v5 =>
  kld v5 w.drew fun v6 =>
  kG (w.drew = w.drew) <|
  kix (some (.slice 3)) (some 1) x0 x2 fun v7 =>
  kld v7 w.drew fun v8 =>
  kG (w.drew = w.drew) <|
  kix (some (.slice 3)) (some 1) x0 x2 fun v9 =>
  kst 1 v9 v6 w.drew fun w10 =>
  kix (some (.slice 3)) (some 1) x0 x3 fun v11 =>
  kst 1 v11 v8 w10 fun w12 =>
  f133_2 x0 x2 x3 J1 Q w12

def f133_0 (x2 : Value) (x3 : Value) (x0 : Value) (J1 : Value → Value → World → Prop) (Q : Value → World → Prop) (w : World) : Prop :=
  kint .i64 .lss x2 x3 fun v4 =>
  kB v4 fun b15 => kIf b15
  (f133_1 x0 x2 x3 J1 Q w)
  (Q (.tuple #[]) w)

def f133 (x0 : Value) (Q : Value → World → Prop) (w : World) : Prop :=
  klen x0 fun v1 =>
  kint .i64 .sub v1 (.int .i64 1) fun v3 =>
  kL fun (I : Value → Value → World → Prop) (μ : Value → Value → World → Nat) => I (.int .i64 0) v3 w ∧ ∀ (x2 x3 : Value) (w1 : World), I x2 x3 w1 →
  f133_0 x2 x3 x0 (fun y2 y3 w2 => I y2 y3 w2 ∧ μ y2 y3 w2 < μ x2 x3 w1) Q w1

theorem f133_eq (x0 : Value) (Q : Value → World → Prop) (w : World) : f133 x0 Q w = fnVC Tryz.prog Tryz.f133 [(1, [2, 3])] (Tryz.f133.body.get rfl) [x0] w Q := by kernel_rfl
theorem f133_ok {x0 : Value} {Q : Value → World → Prop} {w : World} (h : f133 x0 Q w) : Meets Tryz.prog 133 #[x0] w Q :=
  sound (c := (Tryz.f133.body.get rfl)) [(1, [2, 3])] Tryz.func133 rfl rfl (args := [x0]) rfl (Eq.mp (f133_eq x0 Q w) h)

end Go.Proofs.YtlkpadfkmdgjcaaGreatDoor
end
section
set_option linter.unusedSimpArgs false
set_option linter.unusedVariables false
namespace Go.Proofs.YtlkpadfkmdgjcaaGreatDoor
open Go Go.Ev
set_option linter.unusedVariables false
set_option linter.unusedSimpArgs false
set_option maxRecDepth 100000
attribute [local irreducible] kO kB kStr kInt kN kG kIf kfld kld kldN kst knew kmap kbld kbldS kext kcnv klenStr klen kcap kprt kprtN kbool kint kstr keq kun ksl kix kiv kta kmk kmm ksem ksemU kextf kcallV kcallM kcall kL

/-! ### The roll -/
theorem ptRoll : isPtrT Tryz.prog 124 = true := by kernel_rfl
def genC (x : Int × Bool) : List Value := [nV x.1, .bool x.2]
def rollTag (t : Tag) : Prop := t = .roll ∨ t = .places ∨ t = .row
def RollAt (o : Lab) (w : World) (b : Nat) (gens : List (Int × Bool)) (free : List Nat) : Prop :=
  o b = some .roll ∧ gens.length ≤ 64 ∧ free.length ≤ gens.length ∧ (∀ i ∈ free, i < gens.length) ∧
  ∃ pv rv, blk w b = some (.cells #[pv, rv] 220) ∧ Own w pv 2 (gens.flatMap genC) ∧ Own w rv 1 (free.map natV) ∧ (∀ k, vblk pv k → o k = some .places) ∧ (∀ k, vblk rv k → o k = some .row)
theorem RollAt.frame {o o' : Lab} {w w' : World} {b : Nat} {gens : List (Int × Bool)} {free : List Nat} (h : RollAt o w b gens free) {fp : Nat → Prop} (hm : Mod fp w w') (hf : ∀ k t, o k = some t → rollTag t → ¬ fp k) (ho : LabEq w o o') : RollAt o' w' b gens free := by
  obtain ⟨h1, h2, h3, h4, pv, rv, hb, hp, hr, hpl, hrl⟩ := h
  refine ⟨by rw [ho b (lt_of_blk hb)]; exact h1, h2, h3, h4, pv, rv, hm.get hb (hf b _ h1 (.inl rfl)), hp.mod hm fun k hk => hf k _ (hpl k hk) (.inr (.inl rfl)), hr.mod hm fun k hk => hf k _ (hrl k hk) (.inr (.inr rfl)), fun k hk => ?_, fun k hk => ?_⟩
  · rw [ho k (hp.vblk_lt hk)]; exact hpl k hk
  · rw [ho k (hr.vblk_lt hk)]; exact hrl k hk
theorem RollAt.same {o : Lab} {w w' : World} {b : Nat} {gens : List (Int × Bool)} {free : List Nat} (h : RollAt o w b gens free) (hm : Same w w') : RollAt o w' b gens free := h.frame hm (fun _ _ _ _ h => h) (LabEq.refl _ _)
def aliveF (gens : List (Int × Bool)) (idx gen : Int) : Bool := decide (0 ≤ idx) && match gens[idx.toNat]? with
  | some (g, b) => b && decide (g = gen)
  | none => false
def entV (idx gen : Int) : Value := .agg #[.int .i64 idx, .int .i64 gen]
theorem rAlive_spec {o : Lab} {w : World} {b : Nat} {gens : List (Int × Bool)} {free : List Nat} (h : RollAt o w b gens free) (idx gen : Int) :
    Meets Tryz.prog 99 #[.pointer (some ⟨b, 0, none⟩), entV idx gen] w fun v w' => v = .bool (aliveF gens idx gen) ∧ Same w w' := by
  obtain ⟨h1, h2, h3, h4, pv, rv, hb, hp, hr, hpl, hrl⟩ := h
  have hpi := hp.is
  obtain ⟨pa, pn, pc, rfl, hps, _⟩ := hpi
  have hpn : pn = gens.length := by
    have := hps.1
    rw [flat_len genC 2 (fun _ => rfl)] at this
    omega
  subst hpn
  refine f99_ok ?_
  unfold f99
  refine knew_of fun w2 hm2 hs2 hb2 => ?_
  have hb2 : blk w2.drew w.heap.size = some (.cells #[.int .i64 idx, .int .i64 gen] 37) := hb2
  have m2 := hm2.drew
  generalize w2.drew = wa at *
  rw [keq_ptr_nil ptRoll]
  have hba := m2.get hb (fun h => h)
  refine kG_of rfl ?_
  refine kB_at ?_
  refine kIf_T rfl ?_
  refine kfld_of ?_
  refine kld_at hb2 rfl ?_
  refine kG_of rfl ?_
  refine lss_at ?_
  refine kB_at ?_
  unfold aliveF
  by_cases hi : idx < 0
  · refine kIf_F (notF (decT hi)) ?_
    unfold f99_0
    refine kB_at ?_
    refine kIf_T rfl ?_
    rw [decF (show ¬ 0 ≤ idx by omega)]
    exact ⟨rfl, m2⟩
  refine kIf_T (notT (decF hi)) ?_
  rw [decT (show 0 ≤ idx by omega), Bool.true_and]
  repeat (first | refine kN_at ?_ | refine kB_at ?_ | refine kfld_of ?_ | refine kext_at rfl ?_ | refine kld_at hb2 rfl ?_ | refine kld_at hba rfl ?_ | refine kldN_at hb2 rfl (by omega) ?_ | refine kldN_at hba rfl (by omega) ?_ | refine kG_of (by first | exact rfl | omega) ?_ | refine klen_at ?_ | refine eql_at ?_ | refine neq_at ?_ | refine lss_at ?_ | refine leq_at ?_ | refine gtr_at ?_ | refine geq_at ?_ | refine add_at (by omega) (by omega) ?_ | refine sub_at (by omega) (by omega) ?_ | refine not_at ?_ | refine kO_at ?_ | refine kprt_at rfl ?_ | refine kprtN_at rfl ?_ | refine kcap_at ?_ | refine klenStr_at ?_ | refine kN_iat ?_ | refine kN_fat ?_ | refine kIf_T (by first | exact rfl | exact decT (by omega) | exact notT (decF (by omega))) ?_ | refine kIf_F (by first | exact rfl | exact decF (by omega) | exact notF (decT (by omega))) ?_)
  by_cases hn : (gens.length : Int) ≤ idx
  · refine kIf_T (decT hn) ?_
    rw [List.getElem?_eq_none (by omega)]
    exact ⟨rfl, m2⟩
  refine kIf_F (decF hn) ?_
  have hlt : idx.toNat < gens.length := by omega
  obtain ⟨bc, cp, arr, t, e, hbc, q1, q2, q3⟩ := (hp.same m2).viewF (F := genC) (sz := 2) (fun _ => rfl) (by omega) (show 0 < gens.length by omega)
  cases e
  have hbc : blk wa.drew bc = _ := hbc
  have hba : blk wa.drew b = _ := hba
  have hb2 : blk wa.drew w.heap.size = _ := hb2
  have m2 := m2.drew
  unfold f99_1
  generalize wa.drew = wb at *
  repeat (first | refine kN_at ?_ | refine kB_at ?_ | refine kfld_of ?_ | refine kext_at rfl ?_ | refine kld_at hba rfl ?_ | refine kld_at hb2 rfl ?_ | refine kldN_at hba rfl (by omega) ?_ | refine kldN_at hb2 rfl (by omega) ?_ | refine kG_of (by first | exact rfl | omega) ?_ | refine klen_at ?_ | refine eql_at ?_ | refine neq_at ?_ | refine lss_at ?_ | refine leq_at ?_ | refine gtr_at ?_ | refine geq_at ?_ | refine add_at (by omega) (by omega) ?_ | refine sub_at (by omega) (by omega) ?_ | refine not_at ?_ | refine kO_at ?_ | refine kprt_at rfl ?_ | refine kprtN_at rfl ?_ | refine kcap_at ?_ | refine klenStr_at ?_ | refine kN_iat ?_ | refine kN_fat ?_ | refine kIf_T (by first | exact rfl | exact decT (by omega) | exact notT (decF (by omega))) ?_ | refine kIf_F (by first | exact rfl | exact decF (by omega) | exact notF (decT (by omega))) ?_)
  rw [kix_slice]
  refine kG_of (by omega) ?_
  rw [add_mk, Nat.zero_add]
  have q4 := q3 _ hlt
  rw [List.getElem?_eq_getElem hlt]
  generalize gens[idx.toNat] = ga at *
  obtain ⟨g, al⟩ := ga
  refine kldN_at hbc q4 (by omega) ?_
  refine kG_of rfl ?_
  refine knew_of fun w24 h24 hs24 hb24 => ?_
  refine kG_of (kldN_at (h24.get hbc (fun h => h)) q4 (by omega) ⟨rfl, rfl⟩) ?_
  refine kG_of (kld_at (h24.get hb2 (fun h => h)) rfl ⟨rfl, rfl⟩) ?_
  refine kG_of (kld_at (h24.get hba (fun h => h)) rfl ⟨rfl, rfl⟩) ?_
  refine kst_of (vs := genC (g, al)) hb24 rfl rfl rfl (by simp) (by simp [genC]) fun w25 h25 hs25 hb25 => ?_
  have hb25 : blk w25 wb.heap.size = some (.cells #[nV g, .bool al] 230) := hb25
  have m25 : Same w w25 := m2.trans (Mod.after h24 h25 (fun b hb => by omega))
  have hsb := m2.size
  have hlb := lt_of_blk hb2
  have hb2' := h25.get (h24.get hb2 (fun h => h)) (by omega)
  repeat (first | refine kN_at ?_ | refine kB_at ?_ | refine kfld_of ?_ | refine kext_at rfl ?_ | refine kld_at hb25 rfl ?_ | refine kld_at hb2' rfl ?_ | refine kldN_at hb25 rfl (by omega) ?_ | refine kldN_at hb2' rfl (by omega) ?_ | refine kG_of (by first | exact rfl | omega) ?_ | refine klen_at ?_ | refine eql_at ?_ | refine neq_at ?_ | refine lss_at ?_ | refine leq_at ?_ | refine gtr_at ?_ | refine geq_at ?_ | refine add_at (by omega) (by omega) ?_ | refine sub_at (by omega) (by omega) ?_ | refine not_at ?_ | refine kO_at ?_ | refine kprt_at rfl ?_ | refine kprtN_at rfl ?_ | refine kcap_at ?_ | refine klenStr_at ?_ | refine kN_iat ?_ | refine kN_fat ?_ | refine kIf_T (by first | exact rfl | exact decT (by omega) | exact notT (decF (by omega))) ?_ | refine kIf_F (by first | exact rfl | exact decF (by omega) | exact notF (decT (by omega))) ?_)
  cases al with
  | false => exact kIf_F rfl ⟨rfl, m25⟩
  | true =>
    refine kIf_T rfl ?_
    repeat (first | refine kN_at ?_ | refine kB_at ?_ | refine kfld_of ?_ | refine kext_at rfl ?_ | refine kld_at hb25 rfl ?_ | refine kld_at hb2' rfl ?_ | refine kldN_at hb25 rfl (by omega) ?_ | refine kldN_at hb2' rfl (by omega) ?_ | refine kG_of (by first | exact rfl | omega) ?_ | refine klen_at ?_ | refine eql_at ?_ | refine neq_at ?_ | refine lss_at ?_ | refine leq_at ?_ | refine gtr_at ?_ | refine geq_at ?_ | refine add_at (by omega) (by omega) ?_ | refine sub_at (by omega) (by omega) ?_ | refine not_at ?_ | refine kO_at ?_ | refine kprt_at rfl ?_ | refine kprtN_at rfl ?_ | refine kcap_at ?_ | refine klenStr_at ?_ | refine kN_iat ?_ | refine kN_fat ?_ | refine kIf_T (by first | exact rfl | exact decT (by omega) | exact notT (decF (by omega))) ?_ | refine kIf_F (by first | exact rfl | exact decF (by omega) | exact notF (decT (by omega))) ?_)
    exact ⟨by simp, m25⟩
theorem rCount_spec {o : Lab} {w : World} {b : Nat} {gens : List (Int × Bool)} {free : List Nat} (h : RollAt o w b gens free) :
    Meets Tryz.prog 80 #[.pointer (some ⟨b, 0, none⟩)] w fun v w' => v = .int .i64 ((gens.length - free.length : Nat) : Int) ∧ Same w w' := by
  obtain ⟨h1, h2, h3, h4, pv, rv, hb, hp, hr, hpl, hrl⟩ := h
  obtain ⟨pa, pn, pc, rfl, hps, _⟩ := hp.is
  obtain ⟨ra, rn, rc, rfl, hrs, hrn⟩ := hr.is
  have hrn : rn = free.length := by simpa using hrn rfl
  have hpn : pn = gens.length := by
    have := hps.1
    rw [flat_len genC 2 (fun _ => rfl)] at this
    omega
  subst hpn hrn
  refine f80_ok ?_
  unfold f80
  rw [keq_ptr_nil ptRoll]
  refine kB_at ?_
  refine kIf_F rfl ?_
  unfold f80_0
  have hb : blk w.drew b = _ := hb
  have m := (Mod.refl (fun _ => False) w).drew
  generalize w.drew = wa at *
  repeat (first | refine kN_at ?_ | refine kB_at ?_ | refine kfld_of ?_ | refine kext_at rfl ?_ | refine kld_at hb rfl ?_ | refine kldN_at hb rfl (by omega) ?_ | refine kG_of (by first | exact rfl | omega) ?_ | refine klen_at ?_ | refine eql_at ?_ | refine neq_at ?_ | refine lss_at ?_ | refine leq_at ?_ | refine gtr_at ?_ | refine geq_at ?_ | refine add_at (by omega) (by omega) ?_ | refine sub_at (by omega) (by omega) ?_ | refine not_at ?_ | refine kO_at ?_ | refine kprt_at rfl ?_ | refine kprtN_at rfl ?_ | refine kcap_at ?_ | refine klenStr_at ?_ | refine kN_iat ?_ | refine kN_fat ?_ | refine kIf_T (by first | exact rfl | exact decT (by omega) | exact notT (decF (by omega))) ?_ | refine kIf_F (by first | exact rfl | exact decF (by omega) | exact notF (decT (by omega))) ?_)
  exact ⟨by congr 1; omega, m⟩
theorem rTake_spec {o : Lab} {w : World} {b : Nat} {gens : List (Int × Bool)} {free : List Nat} (h : RollAt o w b gens free) {L : Nat} (hL : L + 1 = free.length) {i : Nat} (hi : free[L]'(by omega) = i) (hlt : i < gens.length) (hg : 0 ≤ (gens[i]'hlt).1 ∧ (gens[i]'hlt).1 ≤ 1000000) :
    Meets Tryz.prog 75 #[.pointer (some ⟨b, 0, none⟩)] w fun v w' =>
      v = .tuple #[entV i ((gens[i]'hlt).1 + 1), .nilIface] ∧ RollAt o w' b (gens.set i ((gens[i]'hlt).1 + 1, true)) (free.take L) ∧ Mod (FP o rollTag) w w' := by
  obtain ⟨h1, h2, h3, h4, pv, rv, hb, hp, hr, hpl, hrl⟩ := h
  obtain ⟨bp, cp, arr, t, rfl, hbp, p1, p2, p3⟩ := hp.viewF (F := genC) (sz := 2) (fun _ => rfl) (by omega) (show 0 < gens.length by omega)
  obtain ⟨ra, rn, rc, rfl, hrs, hrn⟩ := hr.is
  have hrn : rn = free.length := by simpa using hrn rfl
  subst hrn
  have hr0 := hr
  obtain ⟨br, cr, arr2, t2, e, hbr, r1, r2, r3⟩ := hr.viewM (by omega)
  cases e
  have hpb := hpl bp ⟨_, _, _, rfl⟩
  have hrb := hrl br ⟨_, _, _, rfl⟩
  have npb : bp ≠ b := fun e => by rw [e, h1] at hpb; cases hpb
  have nrb : br ≠ b := fun e => by rw [e, h1] at hrb; cases hrb
  have npr : bp ≠ br := fun e => by rw [e, hrb] at hpb; cases hpb
  have lb := lt_of_blk hb
  have lbp := lt_of_blk hbp
  have lbr := lt_of_blk hbr
  refine f75_ok ?_
  unfold f75
  refine knew_of fun w2 hm2 hs2 hb2 => ?_
  rw [keq_ptr_nil ptRoll]
  have hb2b := hm2.get hb (fun h => h)
  refine kB_at ?_
  refine kIf_F rfl ?_
  repeat (first | refine kN_at ?_ | refine kB_at ?_ | refine kfld_of ?_ | refine kext_at rfl ?_ | refine kld_at hb2b rfl ?_ | refine kldN_at hb2b rfl (by omega) ?_ | refine kG_of (by first | exact rfl | omega) ?_ | refine klen_at ?_ | refine eql_at ?_ | refine neq_at ?_ | refine lss_at ?_ | refine leq_at ?_ | refine gtr_at ?_ | refine geq_at ?_ | refine add_at (by omega) (by omega) ?_ | refine sub_at (by omega) (by omega) ?_ | refine not_at ?_ | refine kO_at ?_ | refine kprt_at rfl ?_ | refine kprtN_at rfl ?_ | refine kcap_at ?_ | refine klenStr_at ?_ | refine kN_iat ?_ | refine kN_fat ?_ | refine kIf_T (by first | exact rfl | exact decT (by omega) | exact notT (decF (by omega))) ?_ | refine kIf_F (by first | exact rfl | exact decF (by omega) | exact notF (decT (by omega))) ?_)
  rw [show ((free.length : Int) - 1) = ((L : Nat) : Int) by omega]
  refine kixld_of (F := natV) (hrs.same hm2) (show L < free.length by omega) rfl ?_
  rw [hi]
  repeat (first | refine kN_at ?_ | refine kB_at ?_ | refine kfld_of ?_ | refine kext_at rfl ?_ | refine kld_at hb2b rfl ?_ | refine kldN_at hb2b rfl (by omega) ?_ | refine kG_of (by first | exact rfl | omega) ?_ | refine klen_at ?_ | refine eql_at ?_ | refine neq_at ?_ | refine lss_at ?_ | refine leq_at ?_ | refine gtr_at ?_ | refine geq_at ?_ | refine add_at (by omega) (by omega) ?_ | refine sub_at (by omega) (by omega) ?_ | refine not_at ?_ | refine kO_at ?_ | refine kprt_at rfl ?_ | refine kprtN_at rfl ?_ | refine kcap_at ?_ | refine klenStr_at ?_ | refine kN_iat ?_ | refine kN_fat ?_ | refine kIf_T (by first | exact rfl | exact decT (by omega) | exact notT (decF (by omega))) ?_ | refine kIf_F (by first | exact rfl | exact decF (by omega) | exact notF (decT (by omega))) ?_)
  refine ksl_sl_hi (by omega) ?_
  repeat (first | refine kN_at ?_ | refine kB_at ?_ | refine kfld_of ?_ | refine kext_at rfl ?_ | refine kG_of (by first | exact rfl | omega) ?_ | refine klen_at ?_ | refine eql_at ?_ | refine neq_at ?_ | refine lss_at ?_ | refine leq_at ?_ | refine gtr_at ?_ | refine geq_at ?_ | refine add_at (by omega) (by omega) ?_ | refine sub_at (by omega) (by omega) ?_ | refine not_at ?_ | refine kO_at ?_ | refine kprt_at rfl ?_ | refine kprtN_at rfl ?_ | refine kcap_at ?_ | refine klenStr_at ?_ | refine kN_iat ?_ | refine kN_fat ?_ | refine kIf_T (by first | exact rfl | exact decT (by omega) | exact notT (decF (by omega))) ?_ | refine kIf_F (by first | exact rfl | exact decF (by omega) | exact notF (decT (by omega))) ?_)
  refine kst1_of hb2b rfl rfl (by simp) fun w31 h31 hs31 hb31 => ?_
  simp only [List.setIfInBounds_toArray, List.set_cons_succ, List.set_cons_zero] at hb31
  repeat (first | refine kN_at ?_ | refine kB_at ?_ | refine kfld_of ?_ | refine kext_at rfl ?_ | refine kld_at hb31 rfl ?_ | refine kldN_at hb31 rfl (by omega) ?_ | refine kG_of (by first | exact rfl | omega) ?_ | refine klen_at ?_ | refine eql_at ?_ | refine neq_at ?_ | refine lss_at ?_ | refine leq_at ?_ | refine gtr_at ?_ | refine geq_at ?_ | refine add_at (by omega) (by omega) ?_ | refine sub_at (by omega) (by omega) ?_ | refine not_at ?_ | refine kO_at ?_ | refine kprt_at rfl ?_ | refine kprtN_at rfl ?_ | refine kcap_at ?_ | refine klenStr_at ?_ | refine kN_iat ?_ | refine kN_fat ?_ | refine kIf_T (by first | exact rfl | exact decT (by omega) | exact notT (decF (by omega))) ?_ | refine kIf_F (by first | exact rfl | exact decF (by omega) | exact notF (decT (by omega))) ?_)
  rw [natV, kix_slice]
  refine kG_of (by omega) ?_
  rw [add_mk, Nat.zero_add, Int.toNat_natCast]
  have hbp31 := h31.get (hm2.get hbp (fun h => h)) npb
  have hseg := p3 i hlt
  have hgen : arr[i * 2]? = some (nV (gens[i]'hlt).1) := by
    obtain ⟨g1, g2⟩ := segL_spec _ _ _ _ hseg
    have := congrArg (fun l : List Value => l[0]?) g2
    simpa [genC, List.getElem?_take, List.getElem?_drop] using this
  have hseg' := (segL_spec _ _ _ _ hseg).1
  rw [Array.length_toList] at hseg'
  repeat (first | refine kN_at ?_ | refine kB_at ?_ | refine kfld_of ?_ | refine kext_at rfl ?_ | refine kG_of (by first | exact rfl | omega) ?_ | refine klen_at ?_ | refine eql_at ?_ | refine neq_at ?_ | refine lss_at ?_ | refine leq_at ?_ | refine gtr_at ?_ | refine geq_at ?_ | refine add_at (by omega) (by omega) ?_ | refine sub_at (by omega) (by omega) ?_ | refine not_at ?_ | refine kO_at ?_ | refine kprt_at rfl ?_ | refine kprtN_at rfl ?_ | refine kcap_at ?_ | refine klenStr_at ?_ | refine kN_iat ?_ | refine kN_fat ?_ | refine kIf_T (by first | exact rfl | exact decT (by omega) | exact notT (decF (by omega))) ?_ | refine kIf_F (by first | exact rfl | exact decF (by omega) | exact notF (decT (by omega))) ?_)
  refine kld_of (v := nV (gens[i]'hlt).1) hbp31 hgen ?_
  refine add_at (by omega) (by omega) ?_
  repeat (first | refine kN_at ?_ | refine kB_at ?_ | refine kfld_of ?_ | refine kext_at rfl ?_ | refine kG_of (by first | exact rfl | omega) ?_ | refine klen_at ?_ | refine eql_at ?_ | refine neq_at ?_ | refine lss_at ?_ | refine leq_at ?_ | refine gtr_at ?_ | refine geq_at ?_ | refine add_at (by omega) (by omega) ?_ | refine sub_at (by omega) (by omega) ?_ | refine not_at ?_ | refine kO_at ?_ | refine kprt_at rfl ?_ | refine kprtN_at rfl ?_ | refine kcap_at ?_ | refine klenStr_at ?_ | refine kN_iat ?_ | refine kN_fat ?_ | refine kIf_T (by first | exact rfl | exact decT (by omega) | exact notT (decF (by omega))) ?_ | refine kIf_F (by first | exact rfl | exact decF (by omega) | exact notF (decT (by omega))) ?_)
  refine kst_of (vs := [nV ((gens[i]'hlt).1 + 1)]) hbp31 rfl rfl rfl (by simp; omega) (by simp) fun w39 h39 hs39 hb39 => ?_
  repeat (first | refine kN_at ?_ | refine kB_at ?_ | refine kfld_of ?_ | refine kext_at rfl ?_ | refine kG_of (by first | exact rfl | omega) ?_ | refine klen_at ?_ | refine eql_at ?_ | refine neq_at ?_ | refine lss_at ?_ | refine leq_at ?_ | refine gtr_at ?_ | refine geq_at ?_ | refine add_at (by omega) (by omega) ?_ | refine sub_at (by omega) (by omega) ?_ | refine not_at ?_ | refine kO_at ?_ | refine kprt_at rfl ?_ | refine kprtN_at rfl ?_ | refine kcap_at ?_ | refine klenStr_at ?_ | refine kN_iat ?_ | refine kN_fat ?_ | refine kIf_T (by first | exact rfl | exact decT (by omega) | exact notT (decF (by omega))) ?_ | refine kIf_F (by first | exact rfl | exact decF (by omega) | exact notF (decT (by omega))) ?_)
  refine kst_of (vs := [.bool true]) hb39 rfl rfl rfl (by rw [setAll_size]; omega) (by simp) fun w41 h41 hs41 hb41 => ?_
  have hb41 : blk w41 bp = some (.cells (setAll (genC ((gens[i]'hlt).1 + 1, true)) arr (i * 2)) t) := hb41
  repeat (first | refine kN_at ?_ | refine kB_at ?_ | refine kfld_of ?_ | refine kext_at rfl ?_ | refine kG_of (by first | exact rfl | omega) ?_ | refine klen_at ?_ | refine eql_at ?_ | refine neq_at ?_ | refine lss_at ?_ | refine leq_at ?_ | refine gtr_at ?_ | refine geq_at ?_ | refine add_at (by omega) (by omega) ?_ | refine sub_at (by omega) (by omega) ?_ | refine not_at ?_ | refine kO_at ?_ | refine kprt_at rfl ?_ | refine kprtN_at rfl ?_ | refine kcap_at ?_ | refine klenStr_at ?_ | refine kN_iat ?_ | refine kN_fat ?_ | refine kIf_T (by first | exact rfl | exact decT (by omega) | exact notT (decF (by omega))) ?_ | refine kIf_F (by first | exact rfl | exact decF (by omega) | exact notF (decT (by omega))) ?_)
  refine kld_of (v := nV ((gens[i]'hlt).1 + 1)) hb41 ?_ ?_
  · have e := setAll_list (genC ((gens[i]'hlt).1 + 1, true)) arr (i * 2) (by simp [genC]; omega)
    have hl : (arr.toList.take (i * 2)).length = i * 2 := by rw [List.length_take, Array.length_toList]; omega
    rw [← Array.getElem?_toList, e, List.append_assoc, List.getElem?_append_right (by rw [hl]; omega), hl]
    simp [genC]
  refine kbld_of (cs := [.int .i64 i, .int .i64 ((gens[i]'hlt).1 + 1)]) rfl ?_
  have hz := h41.get (h39.get (h31.get hb2 (by omega)) (by omega)) (by omega)
  refine kst_of (vs := [.int .i64 i, .int .i64 ((gens[i]'hlt).1 + 1)]) hz rfl rfl rfl (by simp) (by simp) fun w45 h45 hs45 hb45 => ?_
  have hb45 : blk w45 w.heap.size = some (.cells #[.int .i64 i, .int .i64 ((gens[i]'hlt).1 + 1)] 37) := hb45
  repeat (first | refine kN_at ?_ | refine kB_at ?_ | refine kfld_of ?_ | refine kext_at rfl ?_ | refine kld_at hb45 rfl ?_ | refine kldN_at hb45 rfl (by omega) ?_ | refine kG_of (by first | exact rfl | omega) ?_ | refine klen_at ?_ | refine eql_at ?_ | refine neq_at ?_ | refine lss_at ?_ | refine leq_at ?_ | refine gtr_at ?_ | refine geq_at ?_ | refine add_at (by omega) (by omega) ?_ | refine sub_at (by omega) (by omega) ?_ | refine not_at ?_ | refine kO_at ?_ | refine kprt_at rfl ?_ | refine kprtN_at rfl ?_ | refine kcap_at ?_ | refine klenStr_at ?_ | refine kN_iat ?_ | refine kN_fat ?_ | refine kIf_T (by first | exact rfl | exact decT (by omega) | exact notT (decF (by omega))) ?_ | refine kIf_F (by first | exact rfl | exact decF (by omega) | exact notF (decT (by omega))) ?_)
  have hbF := h45.get (h41.get (h39.get hb31 npb.symm) npb.symm) (by omega)
  have hpF := h45.get hb41 (by omega)
  have hm : Mod (fun k => k = b ∨ k = bp) w w45 := by
    have a1 : Mod (fun k => k = b ∨ k = bp) w w41 := (Mod.of_same hm2).trans ((h31.mono fun k _ e => .inl e).trans ((h39.mono fun k _ e => .inr e).trans (h41.mono fun k _ e => .inr e)))
    exact a1.trans' (h45.mono fun k _ e => .inr (by omega))
  refine ⟨rfl, ⟨h1, by simpa using h2, by simp; omega, fun j hj => by simpa using h4 j (List.mem_of_mem_take hj), _, _, hbF, ?_, ?_, ?_, ?_⟩, hm.mono fun k _ e => ?_⟩
  · have := Own.setF (F := genC) (fun _ => rfl) hp hbp (x := ((gens[i]'hlt).1 + 1, true)) (i := i) hpF hlt
    simpa using this
  · rw [List.map_take]
    have e1 := (hr0.mod hm fun k hk e => by
      rcases e with rfl | rfl
      · have := hrl _ hk; rw [h1] at this; cases this
      · have := hrl _ hk; rw [hpb] at this; cases this).cutN (k := L) (by omega)
    rw [Nat.mul_one] at e1
    exact e1
  · rintro k ⟨_, _, _, e⟩; cases e; exact hpb
  · rintro k ⟨_, _, _, e⟩; cases e; exact hrb
  · rcases e with rfl | rfl
    · exact ⟨_, h1, .inl rfl⟩
    · exact ⟨_, hpb, .inr (.inl rfl)⟩
end Go.Proofs.YtlkpadfkmdgjcaaGreatDoor
end
section
set_option linter.unusedSimpArgs false
set_option linter.unusedVariables false
namespace Go.Proofs.YtlkpadfkmdgjcaaGreatDoor
open Go Go.Ev
set_option linter.unusedVariables false
set_option linter.unusedSimpArgs false
set_option maxRecDepth 100000
attribute [local irreducible] kO kB kStr kInt kN kG kIf kfld kld kldN kst knew kmap kbld kbldS kext kcnv klenStr klen kcap kprt kprtN kbool kint kstr keq kun ksl kix kiv kta kmk kmm ksem ksemU kextf kcallV kcallM kcall kL

theorem kmk_of {z : Value} {n l : Nat} {ty : TypeId} {w : World} {K : Value → World → Prop} (h1 : l ≤ 9223372036854775807) (h2 : n * l ≤ 281474976710656)
    (h : ∀ w2, Same w w2 → w2.heap.size = w.heap.size + 1 → blk w2 w.heap.size = some (.cells (zrow z.cells.toList l).toArray ty) → K (.slice (some ⟨w.heap.size, 0, none⟩) l l) w2) : kmk z n ty (.int .i64 l) (.int .i64 l) w K := by
  rw [kmk_eq]
  have h2' : ((n : Int) * (l : Int)) ≤ 281474976710656 := by
    rw [← Int.natCast_mul]; omega
  refine kG_of ⟨by omega, by omega, by omega, h2'⟩ ?_
  rw [Int.toNat_natCast]
  exact h _ ((Mod.refl _ _).alloc _) (by simp) (alloc_heap_new _ _)
theorem zrow_rep {α : Type} {F : α → List Value} (x : α) : ∀ n, zrow (F x) n = (List.replicate n x).flatMap F
  | 0 => rfl
  | n + 1 => by rw [zrow, zrow_rep x n, List.replicate_succ, List.flatMap_cons]
theorem reverse_spec {w : World} {v : Value} {L : List Nat} (hO : Own w v 1 (L.map natV)) (hl : L.length ≤ 1000000) :
    Meets Tryz.prog 133 #[v] w fun r w' => Own w' v 1 (L.reverse.map natV) ∧ Mod (vblk v) w w' ∧ w'.heap.size = w.heap.size := by
  obtain ⟨va, vn, vc, rfl, hs, hvn⟩ := hO.is
  have hvn : vn = L.length := by simpa using hvn rfl
  subst hvn
  refine f133_ok ?_
  unfold f133
  repeat (first | refine kN_at ?_ | refine kB_at ?_ | refine kfld_of ?_ | refine kext_at rfl ?_ | refine kG_of (by first | exact rfl | omega) ?_ | refine klen_at ?_ | refine eql_at ?_ | refine neq_at ?_ | refine lss_at ?_ | refine leq_at ?_ | refine gtr_at ?_ | refine geq_at ?_ | refine add_at (by omega) (by omega) ?_ | refine sub_at (by omega) (by omega) ?_ | refine not_at ?_ | refine kO_at ?_ | refine kprt_at rfl ?_ | refine kprtN_at rfl ?_ | refine kcap_at ?_ | refine klenStr_at ?_ | refine kN_iat ?_ | refine kN_fat ?_ | refine kIf_T (by first | exact rfl | exact decT (by omega) | exact notT (decF (by omega))) ?_ | refine kIf_F (by first | exact rfl | exact decF (by omega) | exact notF (decT (by omega))) ?_)
  refine kL2_of L.length (fun i x y wr => x = .int .i64 i ∧ y = .int .i64 ((L.length : Int) - 1 - i) ∧ 2 * i ≤ L.length + 1 ∧ Mod (vblk (.slice va L.length vc)) w wr ∧ wr.heap.size = w.heap.size ∧ ∃ cur : List Nat, cur.length = L.length ∧ Own wr (.slice va L.length vc) 1 (cur.map natV) ∧ ∀ k, k < L.length → cur[k]? = if k < i ∨ L.length < k + i + 1 then L[L.length - 1 - k]? else L[k]?)
    ⟨lI2_0 ⟨rfl, by simp, by omega, Mod.refl _ _, rfl, L, rfl, hO, fun k hk => by rw [if_neg (by omega)]⟩, fun x y wr hx => ?_⟩
  obtain ⟨i, hi, ⟨rfl, rfl, h2i, hm, hsz, cur, hcl, hOc, hcur⟩, hJ⟩ := lI2_step hx
  unfold f133_0
  refine lss_at ?_
  refine kB_at ?_
  refine kIf_dec (fun hlt => ?_) (fun hge => ?_)
  · obtain ⟨j, hj⟩ : ∃ j, j + i + 1 = L.length := ⟨L.length - 1 - i, by omega⟩
    rw [show ((L.length : Int) - 1 - i) = ((j : Nat) : Int) by omega] at *
    obtain ⟨bc, cp, arr, t, e, hb, q1, q2, q3⟩ := hOc.viewM (by omega)
    rw [hcl] at e
    cases e
    unfold f133_1
    have hb : blk wr.drew bc = _ := hb
    have hmd := hm.drew
    have hszd : wr.drew.heap.size = w.heap.size := hsz
    have hOc : Own wr.drew _ _ _ := hOc.same ((Mod.refl _ _).drew)
    generalize wr.drew = wa at *
    rw [kix_slice]
    refine kG_of (by omega) ?_
    rw [add_mk, Nat.zero_add, Int.toNat_natCast, Nat.mul_one]
    refine kld_of hb (q3 j (by omega)) ?_
    refine kG_of rfl ?_
    rw [kix_slice]
    refine kG_of (by omega) ?_
    rw [add_mk, Nat.zero_add, Int.toNat_natCast, Nat.mul_one]
    refine kld_of hb (q3 i (by omega)) ?_
    refine kG_of rfl ?_
    rw [kix_slice]
    refine kG_of (by omega) ?_
    rw [add_mk, Nat.zero_add, Int.toNat_natCast, Nat.mul_one]
    refine kst_of (vs := [natV cur[j]]) hb rfl rfl rfl (by omega) (by simp) fun w10 h10 hs10 hb10 => ?_
    rw [kix_slice]
    refine kG_of (by omega) ?_
    rw [add_mk, Nat.zero_add, Int.toNat_natCast, Nat.mul_one]
    refine kst_of (vs := [natV cur[i]]) hb10 rfl rfl rfl (by rw [setAll_size]; omega) (by simp) fun w12 h12 hs12 hb12 => ?_
    refine add_at (by omega) (by omega) ?_
    refine sub_at (by omega) (by omega) ?_
    have o1 := hOc.set1 (v := natV cur[j]) hb hb10 (by simp; omega)
    have o2 := o1.set1 (v := natV cur[i]) hb10 hb12 (by simp; omega)
    rw [cast_succ, show ((j : Int) - 1) = (L.length : Int) - 1 - ((i + 1 : Nat) : Int) by omega]
    refine hJ _ _ _ (by omega) ⟨rfl, rfl, by omega, hmd.trans ((h10.trans h12).mono fun k _ e => by subst e; exact ⟨_, _, _, rfl⟩), by omega, (cur.set i cur[j]).set j cur[i], by simp [hcl], ?_, fun k hk => ?_⟩
    · rw [List.map_set, List.map_set]; exact o2
    · rw [List.getElem?_set, List.getElem?_set]
      have cj := hcur j (by omega)
      have ci := hcur i (by omega)
      rw [if_neg (by omega), List.getElem?_eq_getElem (by omega), List.getElem?_eq_getElem (by omega)] at cj ci
      simp only [Option.some.injEq] at cj ci
      have hck := hcur k hk
      by_cases h1 : j = k
      · subst h1
        rw [if_pos rfl, if_pos (by simp; omega), if_pos (by omega), show L.length - 1 - j = i by omega, ci, List.getElem?_eq_getElem (by omega)]
      · rw [if_neg h1]
        by_cases h3 : i = k
        · subst h3
          rw [if_pos rfl, if_pos (by omega), if_pos (by omega), show L.length - 1 - i = j by omega, cj, List.getElem?_eq_getElem (by omega)]
        · rw [if_neg h3, hck]
          by_cases h4 : k < i ∨ L.length < k + i + 1
          · rw [if_pos h4, if_pos (by omega)]
          · rw [if_neg h4, if_neg (by omega)]
  · refine ⟨?_, hm, hsz⟩
    have : cur = L.reverse := by
      apply List.ext_getElem?
      intro k
      by_cases hk : k < L.length
      · rw [hcur k hk, List.getElem?_reverse hk]
        by_cases h4 : k < i ∨ L.length < k + i + 1
        · rw [if_pos h4]
        · rw [if_neg h4, show L.length - 1 - k = k by omega]
      · rw [List.getElem?_eq_none (by omega), List.getElem?_eq_none (by simp; omega)]
    rw [← this]; exact hOc
def rollLab (o : Lab) (n0 n1 k : Nat) : Option Tag := if k < n0 then o k else if k = n0 then some .places else if k = n1 then some .roll else some .row
theorem rNew_spec (o : Lab) (w : World) (most : Nat) (h : most ≤ 64) : Meets Tryz.prog 69 #[.int .i64 most] w fun v w' =>
    ∃ b o', v = .tuple #[.pointer (some ⟨b, 0, none⟩), .nilIface] ∧ LabEq w o o' ∧ RollAt o' w' b (List.replicate most (0, false)) (List.range most).reverse ∧ Same w w' ∧ (∀ k, w.heap.size ≤ k → ∃ t, o' k = some t ∧ rollTag t) ∧ w.heap.size ≤ b := by
  refine f69_ok ?_
  unfold f69
  repeat (first | refine kN_at ?_ | refine kB_at ?_ | refine kfld_of ?_ | refine kext_at rfl ?_ | refine kG_of (by first | exact rfl | omega) ?_ | refine klen_at ?_ | refine eql_at ?_ | refine neq_at ?_ | refine lss_at ?_ | refine leq_at ?_ | refine gtr_at ?_ | refine geq_at ?_ | refine add_at (by omega) (by omega) ?_ | refine sub_at (by omega) (by omega) ?_ | refine not_at ?_ | refine kO_at ?_ | refine kprt_at rfl ?_ | refine kprtN_at rfl ?_ | refine kcap_at ?_ | refine klenStr_at ?_ | refine kN_iat ?_ | refine kN_fat ?_ | refine kIf_T (by first | exact rfl | exact decT (by omega) | exact notT (decF (by omega))) ?_ | refine kIf_F (by first | exact rfl | exact decF (by omega) | exact notF (decT (by omega))) ?_)
  unfold f69_1
  refine kmk_of (by omega) (by omega) fun w8 h8 hs8 hb8 => ?_
  have hz : zrow (Value.agg #[.int .i64 0, .bool false]).cells.toList most = (List.replicate most ((0 : Int), false)).flatMap genC := zrow_rep (F := genC) ((0 : Int), false) most
  rw [hz] at hb8
  refine kbld_of (cs := [.slice (some ⟨w.heap.size, 0, none⟩) most most, .slice none 0 0]) rfl ?_
  refine knew_of fun w11 h11 hs11 hb11 => ?_
  have hb11 : blk w11 w8.heap.size = some (.cells #[.slice (some ⟨w.heap.size, 0, none⟩) most most, .slice none 0 0] 220) := hb11
  have hp11 := h11.get hb8 (fun h => h)
  have nv : ∀ k, ¬ vblk (.slice none 0 0) k := by
    rintro k ⟨_, _, _, e⟩; cases e
  refine kL1_of most (fun i x wr => x = .int .i64 i ∧ ∃ rv, blk wr w8.heap.size = some (.cells #[.slice (some ⟨w.heap.size, 0, none⟩) most most, rv] 220) ∧ Own wr rv 1 ((List.range i).map natV) ∧ (∀ k, vblk rv k → w11.heap.size ≤ k) ∧ Mod (fun k => k = w8.heap.size ∨ w11.heap.size ≤ k) w11 wr)
    ⟨lI1_0 ⟨rfl, _, hb11, Own.nil _ _, fun k hk => absurd hk (nv k), Mod.refl _ _⟩, fun x wr hx => ?_⟩
  obtain ⟨i, hi, ⟨rfl, rv, hb, hO, hf, hm⟩, hJ⟩ := lI1_step hx
  unfold f69_2
  refine lss_at ?_
  refine kB_at ?_
  refine kIf_dec (fun hlt => ?_) (fun hge => ?_)
  · repeat (first | refine kN_at ?_ | refine kB_at ?_ | refine kfld_of ?_ | refine kext_at rfl ?_ | refine kld_at hb rfl ?_ | refine kldN_at hb rfl (by omega) ?_ | refine kG_of (by first | exact rfl | omega) ?_ | refine klen_at ?_ | refine eql_at ?_ | refine neq_at ?_ | refine lss_at ?_ | refine leq_at ?_ | refine gtr_at ?_ | refine geq_at ?_ | refine add_at (by omega) (by omega) ?_ | refine sub_at (by omega) (by omega) ?_ | refine not_at ?_ | refine kO_at ?_ | refine kprt_at rfl ?_ | refine kprtN_at rfl ?_ | refine kcap_at ?_ | refine klenStr_at ?_ | refine kN_iat ?_ | refine kN_fat ?_ | refine kIf_T (by first | exact rfl | exact decT (by omega) | exact notT (decF (by omega))) ?_ | refine kIf_F (by first | exact rfl | exact decF (by omega) | exact notF (decT (by omega))) ?_)
    refine kbldS_of (cs := [natV i]) rfl fun w16 h16 hs16 hb16 => ?_
    refine ksem_append apInt (by omega) (hO.same h16) (Src.ofSlIs (hk := slInt_is.choose_spec) 1 (SlIs.blk hb16 rfl) rfl) (by simp; omega) (by simp; omega) ?_
    intro v' w18 ho18 hm18 hf18
    have hlb := lt_of_blk hb
    have hb18 := hm18.get (h16.get hb (fun h => h)) (fun e => by have := hf _ e; omega)
    obtain ⟨a', n', c', rfl, _⟩ := ho18.is
    have hsm := hm.size
    have hs16' := h16.size
    have hf' : ∀ k, vblk (.slice a' n' c') k → w11.heap.size ≤ k := fun k hk => by
      rcases hf18 k hk with h | h
      · exact hf k h
      · omega
    repeat (first | refine kN_at ?_ | refine kB_at ?_ | refine kfld_of ?_ | refine kext_at rfl ?_ | refine kG_of (by first | exact rfl | omega) ?_ | refine klen_at ?_ | refine eql_at ?_ | refine neq_at ?_ | refine lss_at ?_ | refine leq_at ?_ | refine gtr_at ?_ | refine geq_at ?_ | refine add_at (by omega) (by omega) ?_ | refine sub_at (by omega) (by omega) ?_ | refine not_at ?_ | refine kO_at ?_ | refine kprt_at rfl ?_ | refine kprtN_at rfl ?_ | refine kcap_at ?_ | refine klenStr_at ?_ | refine kN_iat ?_ | refine kN_fat ?_ | refine kIf_T (by first | exact rfl | exact decT (by omega) | exact notT (decF (by omega))) ?_ | refine kIf_F (by first | exact rfl | exact decF (by omega) | exact notF (decT (by omega))) ?_)
    refine kst1_of hb18 rfl rfl (by simp) fun w20 h20 hs20 hb20 => ?_
    simp only [List.setIfInBounds_toArray, List.set_cons_succ, List.set_cons_zero] at hb20
    repeat (first | refine kN_at ?_ | refine kB_at ?_ | refine kfld_of ?_ | refine kext_at rfl ?_ | refine kG_of (by first | exact rfl | omega) ?_ | refine klen_at ?_ | refine eql_at ?_ | refine neq_at ?_ | refine lss_at ?_ | refine leq_at ?_ | refine gtr_at ?_ | refine geq_at ?_ | refine add_at (by omega) (by omega) ?_ | refine sub_at (by omega) (by omega) ?_ | refine not_at ?_ | refine kO_at ?_ | refine kprt_at rfl ?_ | refine kprtN_at rfl ?_ | refine kcap_at ?_ | refine klenStr_at ?_ | refine kN_iat ?_ | refine kN_fat ?_ | refine kIf_T (by first | exact rfl | exact decT (by omega) | exact notT (decF (by omega))) ?_ | refine kIf_F (by first | exact rfl | exact decF (by omega) | exact notF (decT (by omega))) ?_)
    rw [cast_succ]
    refine hJ _ _ (by omega) ⟨rfl, _, hb20, ?_, hf', ?_⟩
    · rw [List.range_succ, List.map_append]
      exact ho18.mod h20 fun k hk e => by have := hf' k hk; omega
    · exact hm.trans ((Mod.of_same h16).trans ((hm18.mono fun k _ e => .inr (hf k e)).trans (h20.mono fun k _ e => .inl e)))
  · have : i = most := by omega
    subst this
    unfold f69_5
    repeat (first | refine kN_at ?_ | refine kB_at ?_ | refine kfld_of ?_ | refine kext_at rfl ?_ | refine kld_at hb rfl ?_ | refine kldN_at hb rfl (by omega) ?_ | refine kG_of (by first | exact rfl | omega) ?_ | refine klen_at ?_ | refine eql_at ?_ | refine neq_at ?_ | refine lss_at ?_ | refine leq_at ?_ | refine gtr_at ?_ | refine geq_at ?_ | refine add_at (by omega) (by omega) ?_ | refine sub_at (by omega) (by omega) ?_ | refine not_at ?_ | refine kO_at ?_ | refine kprt_at rfl ?_ | refine kprtN_at rfl ?_ | refine kcap_at ?_ | refine klenStr_at ?_ | refine kN_iat ?_ | refine kN_fat ?_ | refine kIf_T (by first | exact rfl | exact decT (by omega) | exact notT (decF (by omega))) ?_ | refine kIf_F (by first | exact rfl | exact decF (by omega) | exact notF (decT (by omega))) ?_)
    refine kcall_of (reverse_spec hO (by simp; omega)) ?_
    rintro v w25 ⟨hr, hmr, hsr⟩
    have hlb := lt_of_blk hb
    have hbF := hmr.get hb (fun e => by have := hf _ e; omega)
    have hm25 : Mod (fun k => k = w8.heap.size ∨ w11.heap.size ≤ k) w11 w25 := hm.trans (hmr.mono fun k _ e => .inr (hf k e))
    have hpF := hm25.get hp11 (by omega)
    refine ⟨_, rollLab o w.heap.size w8.heap.size, rfl, fun k hk => by unfold rollLab; rw [if_pos hk], ⟨?_, by simpa using h, by simp, fun j hj => by simpa using hj, _, rv, hbF, ?_, hr, ?_, ?_⟩, ?_, ?_, by omega⟩
    · unfold rollLab; rw [if_neg (by omega), if_neg (by omega), if_pos rfl]
    · exact Own.blk hpF (by simp [flat_len genC 2 (fun _ => rfl)]) (by simp [maxLen]; omega)
    · rintro k ⟨_, _, _, e⟩
      cases e
      unfold rollLab; rw [if_neg (by omega), if_pos rfl]
    · intro k hk
      have := hf k hk
      unfold rollLab; rw [if_neg (by omega), if_neg (by omega), if_neg (by omega)]
    · exact (h8.trans h11).trans' (hm25.mono fun k _ e => .inr (by rcases e with e | e <;> omega))
    · intro k hk
      unfold rollLab
      rw [if_neg (by omega)]
      by_cases e1 : k = w.heap.size
      · rw [if_pos e1]; exact ⟨_, rfl, .inr (.inl rfl)⟩
      · rw [if_neg e1]
        by_cases e2 : k = w8.heap.size
        · rw [if_pos e2]; exact ⟨_, rfl, .inl rfl⟩
        · rw [if_neg e2]; exact ⟨_, rfl, .inr (.inr rfl)⟩
theorem rFree_spec {o : Lab} {w : World} {b : Nat} {gens : List (Int × Bool)} {free : List Nat} (h : RollAt o w b gens free) {i : Nat} {g : Int} (hi : gens[i]? = some (g, true)) (hfl : free.length < gens.length) :
    Meets Tryz.prog 97 #[.pointer (some ⟨b, 0, none⟩), entV i g] w fun v w' => v = .nilIface ∧ ∃ o', LabEq w o o' ∧ RollAt o' w' b (gens.set i (g, false)) (free ++ [i]) ∧ Mod (FP o rollTag) w w' := by
  obtain ⟨h1, h2, h3, h4, pv, rv, hb, hp, hr, hpl, hrl⟩ := id h
  have hlt : i < gens.length := (List.getElem?_eq_some_iff.1 hi).1
  have hgi : gens[i] = (g, true) := (List.getElem?_eq_some_iff.1 hi).2
  obtain ⟨bp, cp, arr, t, rfl, hbp, p1, p2, p3⟩ := hp.viewF (F := genC) (sz := 2) (fun _ => rfl) (by omega) (show 0 < gens.length by omega)
  have hpb := hpl bp ⟨_, _, _, rfl⟩
  have npb : bp ≠ b := fun e => by rw [e, h1] at hpb; cases hpb
  have lb := lt_of_blk hb
  have lbp := lt_of_blk hbp
  have hseg := p3 i hlt
  have hseg' := (segL_spec _ _ _ _ hseg).1
  rw [Array.length_toList] at hseg'
  refine f97_ok ?_
  unfold f97
  refine knew_of fun w2 hm2 hs2 hb2 => ?_
  have hb2 : blk w2 w.heap.size = some (.cells #[.int .i64 i, .int .i64 g] 37) := hb2
  rw [keq_ptr_nil ptRoll]
  repeat (first | refine kN_at ?_ | refine kB_at ?_ | refine kfld_of ?_ | refine kext_at rfl ?_ | refine kld_at hb2 rfl ?_ | refine kldN_at hb2 rfl (by omega) ?_ | refine kG_of (by first | exact rfl | omega) ?_ | refine klen_at ?_ | refine eql_at ?_ | refine neq_at ?_ | refine lss_at ?_ | refine leq_at ?_ | refine gtr_at ?_ | refine geq_at ?_ | refine add_at (by omega) (by omega) ?_ | refine sub_at (by omega) (by omega) ?_ | refine not_at ?_ | refine kO_at ?_ | refine kprt_at rfl ?_ | refine kprtN_at rfl ?_ | refine kcap_at ?_ | refine klenStr_at ?_ | refine kN_iat ?_ | refine kN_fat ?_ | refine kIf_T (by first | exact rfl | exact decT (by omega) | exact notT (decF (by omega))) ?_ | refine kIf_F (by first | exact rfl | exact decF (by omega) | exact notF (decT (by omega))) ?_)
  refine kcall_of (rAlive_spec (h.same hm2) i g) ?_
  rintro v w10 ⟨rfl, h10⟩
  have hal : aliveF gens i g = true := by
    unfold aliveF
    rw [decT (show (0 : Int) ≤ (i : Int) by omega), Int.toNat_natCast, hi]
    simp
  rw [hal]
  refine not_at ?_
  refine kB_at ?_
  refine kIf_F rfl ?_
  unfold f97_0
  have m10 := (hm2.trans h10).drew
  have hbe : blk w10.drew w.heap.size = _ := h10.get hb2 (fun h => h)
  generalize w10.drew = wa at *
  have hba := m10.get hb (fun h => h)
  repeat (first | refine kN_at ?_ | refine kB_at ?_ | refine kfld_of ?_ | refine kext_at rfl ?_ | refine kld_at hba rfl ?_ | refine kld_at hbe rfl ?_ | refine kldN_at hba rfl (by omega) ?_ | refine kldN_at hbe rfl (by omega) ?_ | refine kG_of (by first | exact rfl | omega) ?_ | refine klen_at ?_ | refine eql_at ?_ | refine neq_at ?_ | refine lss_at ?_ | refine leq_at ?_ | refine gtr_at ?_ | refine geq_at ?_ | refine add_at (by omega) (by omega) ?_ | refine sub_at (by omega) (by omega) ?_ | refine not_at ?_ | refine kO_at ?_ | refine kprt_at rfl ?_ | refine kprtN_at rfl ?_ | refine kcap_at ?_ | refine klenStr_at ?_ | refine kN_iat ?_ | refine kN_fat ?_ | refine kIf_T (by first | exact rfl | exact decT (by omega) | exact notT (decF (by omega))) ?_ | refine kIf_F (by first | exact rfl | exact decF (by omega) | exact notF (decT (by omega))) ?_)
  rw [kix_slice]
  refine kG_of (by omega) ?_
  rw [add_mk, Nat.zero_add, Int.toNat_natCast]
  refine kfld_of ?_
  have hpa := m10.get hbp (fun h => h)
  refine kst_of (vs := [.bool false]) hpa rfl rfl rfl (by omega) (by simp) fun w21 h21 hs21 hb21 => ?_
  have hb21 : blk w21.drew bp = _ := hb21
  have hb21b : blk w21.drew b = _ := h21.get hba npb.symm
  have hbe21 : blk w21.drew w.heap.size = _ := h21.get hbe (by omega)
  have m21 : Mod (fun k => k = bp) w w21.drew := ((Mod.of_same m10).trans h21).drew
  have nrp : ∀ k, vblk rv k → k ≠ bp := fun k hk e => by
    subst e
    rw [hrl k hk] at hpb; cases hpb
  have nrb : ¬ vblk rv b := fun hk => by
    have := hrl b hk
    rw [h1] at this; cases this
  have hr21 : Own w21.drew rv 1 (free.map natV) := hr.mod m21 nrp
  have hsz21 : wa.heap.size = w21.drew.heap.size := hs21.symm
  generalize w21.drew = wb at *
  repeat (first | refine kN_at ?_ | refine kB_at ?_ | refine kfld_of ?_ | refine kext_at rfl ?_ | refine kld_at hb21b rfl ?_ | refine kld_at hbe21 rfl ?_ | refine kldN_at hb21b rfl (by omega) ?_ | refine kldN_at hbe21 rfl (by omega) ?_ | refine kG_of (by first | exact rfl | omega) ?_ | refine klen_at ?_ | refine eql_at ?_ | refine neq_at ?_ | refine lss_at ?_ | refine leq_at ?_ | refine gtr_at ?_ | refine geq_at ?_ | refine add_at (by omega) (by omega) ?_ | refine sub_at (by omega) (by omega) ?_ | refine not_at ?_ | refine kO_at ?_ | refine kprt_at rfl ?_ | refine kprtN_at rfl ?_ | refine kcap_at ?_ | refine klenStr_at ?_ | refine kN_iat ?_ | refine kN_fat ?_ | refine kIf_T (by first | exact rfl | exact decT (by omega) | exact notT (decF (by omega))) ?_ | refine kIf_F (by first | exact rfl | exact decF (by omega) | exact notF (decT (by omega))) ?_)
  refine kbldS_of (cs := [natV i]) rfl fun w27 h27 hs27 hb27 => ?_
  have hb27b := h27.get hb21b (fun h => h)
  refine kG_of (kld_at hb27b rfl ⟨rfl, rfl⟩) ?_
  refine ksem_append apInt (by omega) (hr21.same h27) (Src.ofSlIs (hk := slInt_is.choose_spec) 1 (SlIs.blk hb27 rfl) rfl) (by simp; omega) (by simp; omega) ?_
  intro v' w29 ho29 hm29 hf29
  have hb29 := hm29.get hb27b nrb
  obtain ⟨a', n', c', rfl, _⟩ := ho29.is
  repeat (first | refine kN_at ?_ | refine kB_at ?_ | refine kfld_of ?_ | refine kext_at rfl ?_ | refine kG_of (by first | exact rfl | omega) ?_ | refine klen_at ?_ | refine eql_at ?_ | refine neq_at ?_ | refine lss_at ?_ | refine leq_at ?_ | refine gtr_at ?_ | refine geq_at ?_ | refine add_at (by omega) (by omega) ?_ | refine sub_at (by omega) (by omega) ?_ | refine not_at ?_ | refine kO_at ?_ | refine kprt_at rfl ?_ | refine kprtN_at rfl ?_ | refine kcap_at ?_ | refine klenStr_at ?_ | refine kN_iat ?_ | refine kN_fat ?_ | refine kIf_T (by first | exact rfl | exact decT (by omega) | exact notT (decF (by omega))) ?_ | refine kIf_F (by first | exact rfl | exact decF (by omega) | exact notF (decT (by omega))) ?_)
  refine kst1_of hb29 rfl rfl (by simp) fun w31 h31 hs31 hb31 => ?_
  simp only [List.setIfInBounds_toArray, List.set_cons_succ, List.set_cons_zero] at hb31
  have hsm := m10.size
  have hs27' := h27.size
  have hn : ∀ k, vblk (.slice a' n' c') k → vblk rv k ∨ wb.heap.size ≤ k := fun k hk => by
    rcases hf29 k hk with h | h
    · exact .inl h
    · exact .inr (by omega)
  have hpF : blk w31 bp = _ := h31.get (hm29.get (h27.get hb21 (fun h => h)) (fun e => nrp _ e rfl)) npb
  have hmF : Mod (fun k => k = b ∨ k = bp ∨ vblk rv k) w w31 := (m21.mono fun k _ e => .inr (.inl e)).trans ((Mod.of_same h27).trans ((hm29.mono fun k _ e => .inr (.inr e)).trans (h31.mono fun k _ e => .inl e)))
  refine ⟨rfl, ext o wb.heap.size .row, fun k hk => by unfold ext; rw [if_pos (by omega)], ⟨by unfold ext; rw [if_pos (by omega)]; exact h1, by simpa using h2, by simp; omega, fun j hj => ?_, _, _, hb31, ?_, ?_, ?_, ?_⟩, hmF.mono fun k _ e => ?_⟩
  · simp only [List.length_set]
    rcases List.mem_append.1 hj with h | h
    · exact h4 j h
    · have : j = i := by simpa using h
      omega
  · refine Own.setF (F := genC) (fun _ => rfl) hp hbp (x := (g, false)) (i := i) ?_ hlt |> fun h => by simpa using h
    rw [hpF]
    have hg : arr[i * 2]? = some (nV g) := by
      obtain ⟨g1, g2⟩ := segL_spec _ _ _ _ hseg
      rw [hgi] at g2
      have := congrArg (fun l : List Value => l[0]?) g2
      simpa [genC, List.getElem?_take, List.getElem?_drop] using this
    have hself : arr.setIfInBounds (i * 2) (nV g) = arr := by
      apply arr_ext
      rw [array_set_list]
      apply List.ext_getElem?
      intro k
      rw [List.getElem?_set]
      by_cases hk : i * 2 = k
      · subst hk; rw [if_pos rfl, if_pos (by rw [Array.length_toList]; omega), Array.getElem?_toList, hg]
      · rw [if_neg hk]
    show some (Obj.cells (setAll [.bool false] arr (i * 2 + 1)) t (0, 0)) = some (Obj.cells (setAll [.bool false] (arr.setIfInBounds (i * 2) (nV g)) (i * 2 + 1)) t (0, 0))
    rw [hself]
  · rw [List.map_append]
    exact ho29.mod h31 fun k hk e => by
      subst e
      rcases hn _ hk with h | h
      · exact nrb h
      · omega
  · rintro k ⟨_, _, _, e⟩
    cases e
    unfold ext
    rw [if_pos (by omega)]; exact hpb
  · intro k hk
    unfold ext
    rcases hn k hk with h | h
    · have := hr.vblk_lt h
      rw [if_pos (by omega)]; exact hrl k h
    · rw [if_neg (by omega)]
  · rcases e with rfl | rfl | e
    · exact ⟨_, h1, .inl rfl⟩
    · exact ⟨_, hpb, .inr (.inl rfl)⟩
    · exact ⟨_, hrl k e, .inr (.inr rfl)⟩
end Go.Proofs.YtlkpadfkmdgjcaaGreatDoor
end
section
set_option linter.unusedSimpArgs false
set_option linter.unusedVariables false
namespace Go.Proofs.YtlkpadfkmdgjcaaGreatDoor
open Go Go.Ev
set_option linter.unusedVariables false
set_option maxRecDepth 100000

/-! pasodoble/atlas.New -/
def f70_1 (x0 : Value) (Q : Value → World → Prop) (w : World) : Prop :=
  kmap w fun v7 w8 =>
  kbld [(.int .i64 0), (.slice none 0 0), (.map none)] [(0, 1, x0), (2, 1, v7)] fun v9 =>
  knew (Value.cells v9) 224 w8 fun v10 w11 =>
  kcall Tryz.prog 135 #[v10, (.int .u32 0)] w11 fun v12 w13 =>
  Q (.tuple #[v10, .nilIface]) w13

def f70_0 (x0 : Value) (x10 : Value) (Q : Value → World → Prop) (w : World) : Prop :=
  kB x10 fun b14 => kIf b14
  (kld (.pointer (some ⟨5, 0, none⟩)) w fun v4 =>
  kcall Tryz.prog 134 #[v4] w fun v5 w6 =>
  Q (.tuple #[(.pointer none), v5]) w6)
  (f70_1 x0 Q w)

def f70 (x0 : Value) (Q : Value → World → Prop) (w : World) : Prop :=
  kint .i64 .lss x0 (.int .i64 0) fun v1 =>
  kB v1 fun b2 => kIf (!b2)
  (kint .i64 .gtr x0 (.int .i64 16) fun v3 =>
  f70_0 x0 v3 Q w)
  (f70_0 x0 (.bool true) Q w)

theorem f70_eq (x0 : Value) (Q : Value → World → Prop) (w : World) : f70 x0 Q w = fnVC Tryz.prog Tryz.f70 [] (Tryz.f70.body.get rfl) [x0] w Q := by kernel_rfl
theorem f70_ok {x0 : Value} {Q : Value → World → Prop} {w : World} (h : f70 x0 Q w) : Meets Tryz.prog 70 #[x0] w Q :=
  sound (c := (Tryz.f70.body.get rfl)) [] Tryz.func70 rfl rfl (args := [x0]) rfl (Eq.mp (f70_eq x0 Q w) h)

/-! (*pasodoble/atlas.Atlas).grow -/
def f135_2 (x0 : Value) (x1 : Value) (x5 : Value) (x11 : Value) (J3 : Value → World → Prop) (Q : Value → World → Prop) (w : World) : Prop :=
  kint .i64 .add x11 (.int .i64 1) fun v11 =>
  J3 v11 w

def f135_1 (x0 : Value) (x1 : Value) (x5 : Value) (x11 : Value) (J3 : Value → World → Prop) (Q : Value → World → Prop) (w : World) : Prop :=
  kN x5 <|
  kfld 1 x5 fun v5 =>
  kix (some (.array 16 3)) (some 1) v5 x11 fun v6 =>
  kst 1 v6 (.int .i64 (-1)) w.drew fun w7 =>
  kN x5 <|
  kfld 17 x5 fun v8 =>
  kix (some (.array 16 3)) (some 1) v8 x11 fun v9 =>
  kst 1 v9 (.int .i64 (-1)) w7 fun w10 =>
  f135_2 x0 x1 x5 x11 J3 Q w10

def f135_3 (x0 : Value) (x1 : Value) (x5 : Value) (Q : Value → World → Prop) (w : World) : Prop :=
  kN x0 <|
  kfld 1 x0 fun v12 =>
  kld v12 w fun v13 =>
  klen v13 fun v14 =>
  kN x0 <|
  kfld 1 x0 fun v16 =>
  kld v16 w fun v17 =>
  kbldS [(.pointer none)] 1 [(0, 1, x5)] 232 w fun v18 w19 =>
  ksem Tryz.prog (Builtin.append_ #[222, 222] 0 #[v17, v18]) w19 fun v20 w21 =>
  kN x0 <|
  kfld 1 x0 fun v22 =>
  kst 1 v22 v20 w21 fun w23 =>
  kN x0 <|
  kfld 2 x0 fun v24 =>
  kld v24 w23 fun v25 =>
  ksemU Tryz.prog (Instr.mapUpdate 221 v25 x1 v14) w23 fun _ w27 =>
  Q v14 w27

def f135_0 (x11 : Value) (x0 : Value) (x1 : Value) (x5 : Value) (J3 : Value → World → Prop) (Q : Value → World → Prop) (w : World) : Prop :=
  kint .i64 .lss x11 (.int .i64 16) fun v4 =>
  kB v4 fun b28 => kIf b28
  (f135_1 x0 x1 x5 x11 J3 Q w)
  (f135_3 x0 x1 x5 Q w)

def f135 (x0 : Value) (x1 : Value) (Q : Value → World → Prop) (w : World) : Prop :=
  kbld [(.int .u32 0), (.int .i64 0), (.int .i64 0), (.int .i64 0), (.int .i64 0), (.int .i64 0), (.int .i64 0), (.int .i64 0), (.int .i64 0), (.int .i64 0), (.int .i64 0), (.int .i64 0), (.int .i64 0), (.int .i64 0), (.int .i64 0), (.int .i64 0), (.int .i64 0), (.int .i64 0), (.int .i64 0), (.int .i64 0), (.int .i64 0), (.int .i64 0), (.int .i64 0), (.int .i64 0), (.int .i64 0), (.int .i64 0), (.int .i64 0), (.int .i64 0), (.int .i64 0), (.int .i64 0), (.int .i64 0), (.int .i64 0), (.int .i64 0)] [(0, 1, x1)] fun v1 =>
  knew (Value.cells v1) 236 w fun v2 w3 =>
  kL fun (I : Value → World → Prop) (μ : Value → World → Nat) => I (.int .i64 0) w3 ∧ ∀ (x11 : Value) (w1 : World), I x11 w1 →
  f135_0 x11 x0 x1 v2 (fun y11 w2 => I y11 w2 ∧ μ y11 w2 < μ x11 w1) Q w1

theorem f135_eq (x0 : Value) (x1 : Value) (Q : Value → World → Prop) (w : World) : f135 x0 x1 Q w = fnVC Tryz.prog Tryz.f135 [(3, [11])] (Tryz.f135.body.get rfl) [x0, x1] w Q := by kernel_rfl
theorem f135_ok {x0 : Value} {x1 : Value} {Q : Value → World → Prop} {w : World} (h : f135 x0 x1 Q w) : Meets Tryz.prog 135 #[x0, x1] w Q :=
  sound (c := (Tryz.f135.body.get rfl)) [(3, [11])] Tryz.func135 rfl rfl (args := [x0, x1]) rfl (Eq.mp (f135_eq x0 x1 Q w) h)

/-! (*pasodoble/atlas.Atlas).At -/
def f76_1 (x0 : Value) (x1 : Value) (Q : Value → World → Prop) (w : World) : Prop :=
  kcall Tryz.prog 135 #[x0, x1] w fun v19 w20 =>
  Q (.tuple #[v19, .nilIface]) w20

def f76_0 (x0 : Value) (x1 : Value) (Q : Value → World → Prop) (w : World) : Prop :=
  kN x0 <|
  kfld 2 x0 fun v13 =>
  kld v13 w fun v14 =>
  ksem Tryz.prog (Instr.lookup 221 v14 x1 true) w fun v15 w16 =>
  kext v15 0 fun v17 =>
  kext v15 1 fun v18 =>
  kB v18 fun b21 => kIf b21
  (Q (.tuple #[v17, .nilIface]) w16)
  (f76_1 x0 x1 Q w16)

def f76 (x0 : Value) (x1 : Value) (Q : Value → World → Prop) (w : World) : Prop :=
  keq Tryz.prog .eql 127 false true x0 (.pointer none) w fun v1 w2 =>
  kB v1 fun b23 => kIf b23
  (kld (.pointer (some ⟨4, 0, none⟩)) w2 fun v3 =>
  kcall Tryz.prog 134 #[v3] w2 fun v4 w5 =>
  Q (.tuple #[(.int .i64 0), v4]) w5)
  (kN x0 <|
  kfld 0 x0 fun v6 =>
  kld v6 w2 fun v7 =>
  kint .u32 .shr x1 v7 fun v8 =>
  kint .u32 .neq v8 (.int .u32 0) fun v9 =>
  kB v9 fun b22 => kIf b22
  (kld (.pointer (some ⟨5, 0, none⟩)) w2 fun v10 =>
  kcall Tryz.prog 134 #[v10] w2 fun v11 w12 =>
  Q (.tuple #[(.int .i64 0), v11]) w12)
  (f76_0 x0 x1 Q w2))

theorem f76_eq (x0 : Value) (x1 : Value) (Q : Value → World → Prop) (w : World) : f76 x0 x1 Q w = fnVC Tryz.prog Tryz.f76 [] (Tryz.f76.body.get rfl) [x0, x1] w Q := by kernel_rfl
theorem f76_ok {x0 : Value} {x1 : Value} {Q : Value → World → Prop} {w : World} (h : f76 x0 x1 Q w) : Meets Tryz.prog 76 #[x0, x1] w Q :=
  sound (c := (Tryz.f76.body.get rfl)) [] Tryz.func76 rfl rfl (args := [x0, x1]) rfl (Eq.mp (f76_eq x0 x1 Q w) h)

/-! (*pasodoble/atlas.Atlas).node -/
def f154_1 (x0 : Value) (x1 : Value) (Q : Value → World → Prop) (w : World) : Prop :=
  kN x0 <|
  kfld 1 x0 fun v16 =>
  kld v16 w fun v17 =>
  kix (some (.slice 232)) (some 1) v17 x1 fun v18 =>
  kld v18 w fun v19 =>
  Q (.tuple #[v19, .nilIface]) w

def f154_0 (x0 : Value) (x1 : Value) (x11 : Value) (Q : Value → World → Prop) (w : World) : Prop :=
  kB x11 fun b20 => kIf b20
  (kld (.pointer (some ⟨1, 0, none⟩)) w fun v13 =>
  kcall Tryz.prog 134 #[v13] w fun v14 w15 =>
  Q (.tuple #[(.pointer none), v14]) w15)
  (f154_1 x0 x1 Q w)

def f154 (x0 : Value) (x1 : Value) (Q : Value → World → Prop) (w : World) : Prop :=
  keq Tryz.prog .eql 127 false true x0 (.pointer none) w fun v1 w2 =>
  kB v1 fun b21 => kIf b21
  (kld (.pointer (some ⟨4, 0, none⟩)) w2 fun v3 =>
  kcall Tryz.prog 134 #[v3] w2 fun v4 w5 =>
  Q (.tuple #[(.pointer none), v4]) w5)
  (kint .i64 .lss x1 (.int .i64 0) fun v6 =>
  kB v6 fun b7 => kIf (!b7)
  (kN x0 <|
  kfld 1 x0 fun v8 =>
  kld v8 w2 fun v9 =>
  klen v9 fun v10 =>
  kint .i64 .geq x1 v10 fun v12 =>
  f154_0 x0 x1 v12 Q w2)
  (f154_0 x0 x1 (.bool true) Q w2))

theorem f154_eq (x0 : Value) (x1 : Value) (Q : Value → World → Prop) (w : World) : f154 x0 x1 Q w = fnVC Tryz.prog Tryz.f154 [] (Tryz.f154.body.get rfl) [x0, x1] w Q := by kernel_rfl
theorem f154_ok {x0 : Value} {x1 : Value} {Q : Value → World → Prop} {w : World} (h : f154 x0 x1 Q w) : Meets Tryz.prog 154 #[x0, x1] w Q :=
  sound (c := (Tryz.f154.body.get rfl)) [] Tryz.func154 rfl rfl (args := [x0, x1]) rfl (Eq.mp (f154_eq x0 x1 Q w) h)

/-! (*pasodoble/atlas.Atlas).Mask -/
def f103_0 (x6 : Value) (Q : Value → World → Prop) (w : World) : Prop :=
  kN x6 <|
  kfld 0 x6 fun v7 =>
  kld v7 w fun v8 =>
  Q (.tuple #[v8, .nilIface]) w

def f103 (x0 : Value) (x1 : Value) (Q : Value → World → Prop) (w : World) : Prop :=
  kcall Tryz.prog 154 #[x0, x1] w fun v1 w2 =>
  kext v1 0 fun v3 =>
  kext v1 1 fun v4 =>
  keq Tryz.prog .neq 28 false true v4 .nilIface w2 fun v5 w6 =>
  kB v5 fun b9 => kIf b9
  (Q (.tuple #[(.int .u32 0), v4]) w6)
  (f103_0 v3 Q w6)

theorem f103_eq (x0 : Value) (x1 : Value) (Q : Value → World → Prop) (w : World) : f103 x0 x1 Q w = fnVC Tryz.prog Tryz.f103 [] (Tryz.f103.body.get rfl) [x0, x1] w Q := by kernel_rfl
theorem f103_ok {x0 : Value} {x1 : Value} {Q : Value → World → Prop} {w : World} (h : f103 x0 x1 Q w) : Meets Tryz.prog 103 #[x0, x1] w Q :=
  sound (c := (Tryz.f103.body.get rfl)) [] Tryz.func103 rfl rfl (args := [x0, x1]) rfl (Eq.mp (f103_eq x0 x1 Q w) h)

/-! (*pasodoble/atlas.Atlas).edge -/
def f145_4 (x2 : Value) (x12 : Value) (Q : Value → World → Prop) (w : World) : Prop :=
  kN x12 <|
  kix (some (.array 16 3)) (some 1) x12 x2 fun v36 =>
  kld v36 w fun v37 =>
  Q (.tuple #[v37, .nilIface]) w

def f145_3 (x2 : Value) (x12 : Value) (x14 : Value) (Q : Value → World → Prop) (w : World) : Prop :=
  kN x12 <|
  kix (some (.array 16 3)) (some 1) x12 x2 fun v34 =>
  kst 1 v34 x14 w fun w35 =>
  f145_4 x2 x12 Q w35

def f145_2 (x0 : Value) (x2 : Value) (x12 : Value) (x13 : Value) (Q : Value → World → Prop) (w : World) : Prop :=
  kN x12 <|
  kix (some (.array 16 3)) (some 1) x12 x2 fun v25 =>
  kld v25 w fun v26 =>
  kint .i64 .eql v26 (.int .i64 (-1)) fun v27 =>
  kB v27 fun b39 => kIf b39
  (kcall Tryz.prog 76 #[x0, x13] w fun v28 w29 =>
  kext v28 0 fun v30 =>
  kext v28 1 fun v31 =>
  keq Tryz.prog .neq 28 false true v31 .nilIface w29 fun v32 w33 =>
  kB v32 fun b38 => kIf b38
  (Q (.tuple #[(.int .i64 0), v31]) w33)
  (f145_3 x2 x12 v30 Q w33))
  (f145_4 x2 x12 Q w)

def f145_1 (x0 : Value) (x2 : Value) (x3 : Value) (x10 : Value) (Q : Value → World → Prop) (w : World) : Prop :=
  kN x10 <|
  kfld 17 x10 fun v15 =>
  kN x10 <|
  kfld 0 x10 fun v16 =>
  kld v16 w.drew fun v17 =>
  kG (w.drew = w.drew) <|
  kcall Tryz.prog 175 #[v17, x2] w.drew fun v18 w19 =>
  kB x3 fun b40 => kIf b40
  (kN x10 <|
  kfld 1 x10 fun v20 =>
  kN x10 <|
  kfld 0 x10 fun v21 =>
  kld v21 w19.drew fun v22 =>
  kG (w19.drew = w19.drew) <|
  kcall Tryz.prog 23 #[v22, x2] w19.drew fun v23 w24 =>
  f145_2 x0 x2 v20 v23 Q w24)
  (f145_2 x0 x2 v15 v18 Q w19)

def f145_0 (x0 : Value) (x2 : Value) (x3 : Value) (x10 : Value) (x26 : Value) (Q : Value → World → Prop) (w : World) : Prop :=
  kB x26 fun b41 => kIf b41
  (kld (.pointer (some ⟨5, 0, none⟩)) w fun v12 =>
  kcall Tryz.prog 134 #[v12] w fun v13 w14 =>
  Q (.tuple #[(.int .i64 0), v13]) w14)
  (f145_1 x0 x2 x3 x10 Q w)

def f145 (x0 : Value) (x1 : Value) (x2 : Value) (x3 : Value) (Q : Value → World → Prop) (w : World) : Prop :=
  kcall Tryz.prog 154 #[x0, x1] w fun v1 w2 =>
  kext v1 0 fun v3 =>
  kext v1 1 fun v4 =>
  keq Tryz.prog .neq 28 false true v4 .nilIface w2 fun v5 w6 =>
  kB v5 fun b42 => kIf b42
  (Q (.tuple #[(.int .i64 0), v4]) w6)
  (kint .i64 .lss x2 (.int .i64 0) fun v7 =>
  kB v7 fun b8 => kIf (!b8)
  (kN x0 <|
  kfld 0 x0 fun v9 =>
  kld v9 w6 fun v10 =>
  kint .i64 .geq x2 v10 fun v11 =>
  f145_0 x0 x2 x3 v3 v11 Q w6)
  (f145_0 x0 x2 x3 v3 (.bool true) Q w6))

theorem f145_eq (x0 : Value) (x1 : Value) (x2 : Value) (x3 : Value) (Q : Value → World → Prop) (w : World) : f145 x0 x1 x2 x3 Q w = fnVC Tryz.prog Tryz.f145 [] (Tryz.f145.body.get rfl) [x0, x1, x2, x3] w Q := by kernel_rfl
theorem f145_ok {x0 : Value} {x1 : Value} {x2 : Value} {x3 : Value} {Q : Value → World → Prop} {w : World} (h : f145 x0 x1 x2 x3 Q w) : Meets Tryz.prog 145 #[x0, x1, x2, x3] w Q :=
  sound (c := (Tryz.f145.body.get rfl)) [] Tryz.func145 rfl rfl (args := [x0, x1, x2, x3]) rfl (Eq.mp (f145_eq x0 x1 x2 x3 Q w) h)

/-! (*pasodoble/atlas.Atlas).With -/
def f83 (x0 : Value) (x1 : Value) (x2 : Value) (Q : Value → World → Prop) (w : World) : Prop :=
  kcall Tryz.prog 145 #[x0, x1, x2, (.bool true)] w fun v1 w2 =>
  kext v1 0 fun v3 =>
  kext v1 1 fun v4 =>
  Q (.tuple #[v3, v4]) w2

theorem f83_eq (x0 : Value) (x1 : Value) (x2 : Value) (Q : Value → World → Prop) (w : World) : f83 x0 x1 x2 Q w = fnVC Tryz.prog Tryz.f83 [] (Tryz.f83.body.get rfl) [x0, x1, x2] w Q := by kernel_rfl
theorem f83_ok {x0 : Value} {x1 : Value} {x2 : Value} {Q : Value → World → Prop} {w : World} (h : f83 x0 x1 x2 Q w) : Meets Tryz.prog 83 #[x0, x1, x2] w Q :=
  sound (c := (Tryz.f83.body.get rfl)) [] Tryz.func83 rfl rfl (args := [x0, x1, x2]) rfl (Eq.mp (f83_eq x0 x1 x2 Q w) h)

/-! (*pasodoble/atlas.Atlas).Without -/
def f92 (x0 : Value) (x1 : Value) (x2 : Value) (Q : Value → World → Prop) (w : World) : Prop :=
  kcall Tryz.prog 145 #[x0, x1, x2, (.bool false)] w fun v1 w2 =>
  kext v1 0 fun v3 =>
  kext v1 1 fun v4 =>
  Q (.tuple #[v3, v4]) w2

theorem f92_eq (x0 : Value) (x1 : Value) (x2 : Value) (Q : Value → World → Prop) (w : World) : f92 x0 x1 x2 Q w = fnVC Tryz.prog Tryz.f92 [] (Tryz.f92.body.get rfl) [x0, x1, x2] w Q := by kernel_rfl
theorem f92_ok {x0 : Value} {x1 : Value} {x2 : Value} {Q : Value → World → Prop} {w : World} (h : f92 x0 x1 x2 Q w) : Meets Tryz.prog 92 #[x0, x1, x2] w Q :=
  sound (c := (Tryz.f92.body.get rfl)) [] Tryz.func92 rfl rfl (args := [x0, x1, x2]) rfl (Eq.mp (f92_eq x0 x1 x2 Q w) h)

/-! (*pasodoble/atlas.Atlas).Len -/
def f136_0 (x0 : Value) (Q : Value → World → Prop) (w : World) : Prop :=
  kN x0 <|
  kfld 1 x0 fun v3 =>
  kld v3 w fun v4 =>
  klen v4 fun v5 =>
  Q v5 w

def f136 (x0 : Value) (Q : Value → World → Prop) (w : World) : Prop :=
  keq Tryz.prog .eql 127 false true x0 (.pointer none) w fun v1 w2 =>
  kB v1 fun b7 => kIf b7
  (Q (.int .i64 0) w2)
  (f136_0 x0 Q w2)

theorem f136_eq (x0 : Value) (Q : Value → World → Prop) (w : World) : f136 x0 Q w = fnVC Tryz.prog Tryz.f136 [] (Tryz.f136.body.get rfl) [x0] w Q := by kernel_rfl
theorem f136_ok {x0 : Value} {Q : Value → World → Prop} {w : World} (h : f136 x0 Q w) : Meets Tryz.prog 136 #[x0] w Q :=
  sound (c := (Tryz.f136.body.get rfl)) [] Tryz.func136 rfl rfl (args := [x0]) rfl (Eq.mp (f136_eq x0 Q w) h)

/-! (*pasodoble/atlas.Atlas).Match -/
def f78_4 (x1 : Value) (x2 : Value) (x6 : Value) (x14 : Value) (x15 : Value) (x16 : Value) (J4 : Value → Value → World → Prop) (Q : Value → World → Prop) (w : World) : Prop :=
  kint .i64 .add x16 (.int .i64 1) fun v23 =>
  J4 x6 v23 w

def f78_3 (x1 : Value) (x2 : Value) (x6 : Value) (x7 : Value) (x14 : Value) (x15 : Value) (x16 : Value) (x35 : Value) (J4 : Value → Value → World → Prop) (Q : Value → World → Prop) (w : World) : Prop :=
  kB x35 fun b24 => kIf b24
  (kbldS [(.int .i64 0)] 1 [(0, 1, x7)] 3 w fun v19 w20 =>
  ksem Tryz.prog (Builtin.append_ #[105, 105] 0 #[x6, v19]) w20 fun v21 w22 =>
  f78_4 x1 x2 v21 x14 x15 x16 J4 Q w22)
  (f78_4 x1 x2 x6 x14 x15 x16 J4 Q w)

def f78_2 (x1 : Value) (x2 : Value) (x6 : Value) (x14 : Value) (x15 : Value) (x16 : Value) (J4 : Value → Value → World → Prop) (Q : Value → World → Prop) (w : World) : Prop :=
  kix (some (.slice 232)) (some 1) x14 x16 fun v8 =>
  kld v8 w fun v9 =>
  kN v9 <|
  kfld 0 v9 fun v10 =>
  kld v10 w fun v11 =>
  kcall Tryz.prog 141 #[x1, v11] w fun v12 w13 =>
  kB v12 fun b14 => kIf b14
  (kN v9 <|
  kfld 0 v9 fun v15 =>
  kld v15 w13 fun v16 =>
  kint .u32 .and v16 x2 fun v17 =>
  kint .u32 .eql v17 (.int .u32 0) fun v18 =>
  f78_3 x1 x2 x6 x16 x14 x15 x16 v18 J4 Q w13)
  (f78_3 x1 x2 x6 x16 x14 x15 x16 (.bool false) J4 Q w13)

def f78_5 (x6 : Value) (Q : Value → World → Prop) (w : World) : Prop :=
  Q x6 w

def f78_1 (x6 : Value) (x16 : Value) (x1 : Value) (x2 : Value) (x14 : Value) (x15 : Value) (J4 : Value → Value → World → Prop) (Q : Value → World → Prop) (w : World) : Prop :=
  kint .i64 .lss x16 x15 fun v7 =>
  kB v7 fun b25 => kIf b25
  (f78_2 x1 x2 x6 x14 x15 x16 J4 Q w)
  (f78_5 x6 Q w)

def f78_0 (x0 : Value) (x1 : Value) (x2 : Value) (x6 : Value) (Q : Value → World → Prop) (w : World) : Prop :=
  kN x0 <|
  kfld 1 x0 fun v3 =>
  kld v3 w fun v4 =>
  klen v4 fun v5 =>
  kL fun (I : Value → Value → World → Prop) (μ : Value → Value → World → Nat) => I x6 (.int .i64 0) w ∧ ∀ (x6 x16 : Value) (w1 : World), I x6 x16 w1 →
  f78_1 x6 x16 x1 x2 v4 v5 (fun y6 y16 w2 => I y6 y16 w2 ∧ μ y6 y16 w2 < μ x6 x16 w1) Q w1

def f78 (x0 : Value) (x1 : Value) (x2 : Value) (Q : Value → World → Prop) (w : World) : Prop :=
  keq Tryz.prog .eql 127 false true x0 (.pointer none) w fun v1 w2 =>
  kB v1 fun b26 => kIf b26
  (Q (.slice none 0 0) w2)
  (f78_0 x0 x1 x2 (.slice none 0 0) Q w2)

theorem f78_eq (x0 : Value) (x1 : Value) (x2 : Value) (Q : Value → World → Prop) (w : World) : f78 x0 x1 x2 Q w = fnVC Tryz.prog Tryz.f78 [(4, [6, 16])] (Tryz.f78.body.get rfl) [x0, x1, x2] w Q := by kernel_rfl
theorem f78_ok {x0 : Value} {x1 : Value} {x2 : Value} {Q : Value → World → Prop} {w : World} (h : f78 x0 x1 x2 Q w) : Meets Tryz.prog 78 #[x0, x1, x2] w Q :=
  sound (c := (Tryz.f78.body.get rfl)) [(4, [6, 16])] Tryz.func78 rfl rfl (args := [x0, x1, x2]) rfl (Eq.mp (f78_eq x0 x1 x2 Q w) h)

end Go.Proofs.YtlkpadfkmdgjcaaGreatDoor
end
section
set_option linter.unusedSimpArgs false
set_option linter.unusedVariables false
namespace Go.Proofs.YtlkpadfkmdgjcaaGreatDoor
open Go Go.Ev
set_option linter.unusedVariables false
set_option linter.unusedSimpArgs false
set_option maxRecDepth 100000
attribute [local irreducible] kO kB kStr kInt kN kG kIf kfld kld kldN kst knew kmap kbld kbldS kext kcnv klenStr klen kcap kprt kprtN kbool kint kstr keq kun ksl kix kiv kta kmk kmm ksem ksemU kextf kcallV kcallM kcall kL

/-! ### The atlas -/
structure NodeM where
  mask : Nat
  wth : List Int
  wout : List Int
def NodeM.cells (x : NodeM) : List Value := msk x.mask :: (x.wth.map nV ++ x.wout.map nV)
def NodeM.new (m : Nat) : NodeM := ⟨m, List.replicate 16 (-1), List.replicate 16 (-1)⟩
def ptrV (b : Nat) : Value := .pointer (some ⟨b, 0, none⟩)
def mapM : Nat → List Nat → List (Int × Value)
  | _, [] => []
  | k, m :: r => ((m : Int), natV k) :: mapM (k + 1) r
theorem mapM_append : ∀ (k : Nat) (ms : List Nat) (m : Nat), mapM k (ms ++ [m]) = mapM k ms ++ [((m : Int), natV (k + ms.length))]
  | k, [], m => by simp [mapM]
  | k, x :: r, m => by simp [mapM, mapM_append (k + 1) r m]; congr 1; omega
theorem lk_mapM (m : Nat) : ∀ (k : Nat) (ms : List Nat), lkI (m : Int) (mapM k ms) = if m ∈ ms then some (ms.idxOf m, natV (k + ms.idxOf m)) else none
  | k, [] => by simp [mapM, lkI]
  | k, x :: r => by
    simp only [mapM, lkI]
    by_cases h : m = x
    · subst h; simp
    · rw [if_neg (by omega), lk_mapM m (k + 1) r]
      have hx : (x == m) = false := by simpa using fun e => h e.symm
      by_cases hr : m ∈ r
      · simp [hr, h, List.idxOf_cons, hx]; congr 1; omega
      · simp [hr, h]
def AtlasN (o : Lab) (w : World) (b n : Nat) (pn : Nat → Nat) (nodes : List NodeM) : Prop :=
  o b = some .atlas ∧ n ≤ 16 ∧ nodes.length ≤ 100000 ∧ ∃ nv bm, blk w b = some (.cells #[.int .i64 n, nv, .map (some bm)] 224) ∧
    Own w nv 1 ((List.range nodes.length).map fun i => ptrV (pn i)) ∧ (∀ k, vblk nv k → o k = some .nodes) ∧ o bm = some .amap ∧ MapIs w bm .u32 (mapM 0 (nodes.map (·.mask))) ∧
    ∀ i (hi : i < nodes.length), o (pn i) = some (.node i) ∧ blk w (pn i) = some (.cells (nodes[i]).cells.toArray 236) ∧ (nodes[i]).wth.length = 16 ∧ (nodes[i]).wout.length = 16 ∧ (nodes[i]).mask < 4294967296
def atlasTag (t : Tag) : Prop := t = .atlas ∨ t = .nodes ∨ t = .amap ∨ ∃ i, t = .node i
theorem AtlasN.frame {o o' : Lab} {w w' : World} {b n : Nat} {pn : Nat → Nat} {nodes : List NodeM} (h : AtlasN o w b n pn nodes) {fp : Nat → Prop} (hm : Mod fp w w') (hf : ∀ k t, o k = some t → atlasTag t → ¬ fp k) (ho : LabEq w o o') : AtlasN o' w' b n pn nodes := by
  obtain ⟨h1, h2, h3, nv, bm, hb, hO, hl, hbm, hM, hN⟩ := h
  refine ⟨by rw [ho b (lt_of_blk hb)]; exact h1, h2, h3, nv, bm, hm.get hb (hf b _ h1 (.inl rfl)), hO.mod hm fun k hk => hf k _ (hl k hk) (.inr (.inl rfl)), fun k hk => by rw [ho k (hO.vblk_lt hk)]; exact hl k hk, by rw [ho bm (lt_of_blk hM)]; exact hbm, hM.mod hm (hf bm _ hbm (.inr (.inr (.inl rfl)))), fun i hi => ?_⟩
  obtain ⟨g1, g2, g3⟩ := hN i hi
  exact ⟨by rw [ho _ (lt_of_blk g2)]; exact g1, hm.get g2 (hf _ _ g1 (.inr (.inr (.inr ⟨i, rfl⟩)))), g3⟩
theorem AtlasN.same {o : Lab} {w w' : World} {b n : Nat} {pn : Nat → Nat} {nodes : List NodeM} (h : AtlasN o w b n pn nodes) (hm : Same w w') : AtlasN o w' b n pn nodes := h.frame hm (fun _ _ _ _ h => h) (LabEq.refl _ _)
theorem ptAtl : isPtrT Tryz.prog 127 = true := by kernel_rfl
theorem apNode : appT Tryz.prog 222 1 8 = true := by kernel_rfl
theorem slNode_is : ∃ e, Tryz.prog.underlying 222 = some (.slice e) := slT_of (by kernel_rfl)
def nodeC (m j : Nat) : List Value := msk m :: ((List.replicate j (nV (-1)) ++ List.replicate (16 - j) (nV 0)) ++ (List.replicate j (nV (-1)) ++ List.replicate (16 - j) (nV 0)))
theorem nodeC_step (m j : Nat) (h : j < 16) : setAll [nV (-1)] (setAll [nV (-1)] (nodeC m j).toArray (1 + j)) (17 + j) = (nodeC m (j + 1)).toArray := by
  have hj : j = 0 ∨ j = 1 ∨ j = 2 ∨ j = 3 ∨ j = 4 ∨ j = 5 ∨ j = 6 ∨ j = 7 ∨ j = 8 ∨ j = 9 ∨ j = 10 ∨ j = 11 ∨ j = 12 ∨ j = 13 ∨ j = 14 ∨ j = 15 := by omega
  rcases hj with rfl | rfl | rfl | rfl | rfl | rfl | rfl | rfl | rfl | rfl | rfl | rfl | rfl | rfl | rfl | rfl <;> rfl
theorem nodeC_16 (m : Nat) : nodeC m 16 = (NodeM.new m).cells := rfl
theorem nodeC_len (m j : Nat) (h : j ≤ 16) : (nodeC m j).length = 33 := by
  simp [nodeC]; omega
def updN (f : Nat → Nat) (n v i : Nat) : Nat := if i = n then v else f i
theorem updN_same (f : Nat → Nat) (n v : Nat) : updN f n v n = v := if_pos rfl
theorem updN_ne (f : Nat → Nat) {n v i : Nat} (h : i ≠ n) : updN f n v i = f i := if_neg h
def growLab (o : Lab) (b0 nb k1 i : Nat) : Lab := fun k => if k < b0 then o k else if k = nb then some (.node i) else if k < k1 then none else some .nodes
theorem grow_spec {o : Lab} {w : World} {b n : Nat} {pn : Nat → Nat} {nodes : List NodeM} (h : AtlasN o w b n pn nodes) (m : Nat) (hm32 : m < 4294967296) (hnew : m ∉ nodes.map (·.mask)) (hlen : nodes.length < 100000) :
    Meets Tryz.prog 135 #[ptrV b, msk m] w fun v w' => v = natV nodes.length ∧ ∃ o' pn', LabEq w o o' ∧ (∀ i, i < nodes.length → pn' i = pn i) ∧ AtlasN o' w' b n pn' (nodes ++ [NodeM.new m]) ∧ Mod (FP o atlasTag) w w' := by
  obtain ⟨h1, h2, h3, nv, bm, hb, hO, hl, hbm, hM, hN⟩ := id h
  have lb := lt_of_blk hb
  have lbm := lt_of_blk hM
  have nbm : bm ≠ b := fun e => by rw [e, h1] at hbm; cases hbm
  refine f135_ok ?_
  unfold f135
  refine kbld_of (cs := nodeC m 0) rfl ?_
  refine knew_of fun w3 hm3 hs3 hb3 => ?_
  have hb3 : blk w3 w.heap.size = some (.cells (nodeC m 0).toArray 236) := hb3
  refine kL1_of 16 (fun j x wr => x = .int .i64 j ∧ j ≤ 16 ∧ blk wr w.heap.size = some (.cells (nodeC m j).toArray 236) ∧ Mod (fun k => k = w.heap.size) w3 wr ∧ wr.heap.size = w3.heap.size) ⟨lI1_0 ⟨rfl, by omega, hb3, Mod.refl _ _, rfl⟩, fun x wr hx => ?_⟩
  obtain ⟨j, hj, ⟨rfl, _, hbr, hmr, hsr⟩, hJ⟩ := lI1_step hx
  unfold f135_0
  refine lss_at ?_
  refine kB_at ?_
  refine kIf_dec (fun hlt => ?_) (fun hge => ?_)
  · have hlt : j < 16 := by omega
    have hlen := nodeC_len m j hj
    unfold f135_1
    have hbr : blk wr.drew w.heap.size = _ := hbr
    have hmr := hmr.drew
    have hsr : wr.drew.heap.size = _ := hsr
    generalize wr.drew = wa at *
    repeat (first | refine kN_at ?_ | refine kB_at ?_ | refine kfld_of ?_ | refine kext_at rfl ?_ | refine kG_of (by first | exact rfl | omega) ?_ | refine klen_at ?_ | refine eql_at ?_ | refine neq_at ?_ | refine lss_at ?_ | refine leq_at ?_ | refine gtr_at ?_ | refine geq_at ?_ | refine add_at (by omega) (by omega) ?_ | refine sub_at (by omega) (by omega) ?_ | refine not_at ?_ | refine kO_at ?_ | refine kprt_at rfl ?_ | refine kprtN_at rfl ?_ | refine kcap_at ?_ | refine klenStr_at ?_ | refine kN_iat ?_ | refine kN_fat ?_ | refine kIf_T (by first | exact rfl | exact decT (by omega) | exact notT (decF (by omega))) ?_ | refine kIf_F (by first | exact rfl | exact decF (by omega) | exact notF (decT (by omega))) ?_)
    rw [kix_array]
    refine kG_of (by omega) ?_
    rw [add_mk, Int.toNat_natCast, Nat.mul_one, Nat.zero_add]
    refine kst_of (vs := [nV (-1)]) hbr rfl rfl rfl (by simp [hlen]; omega) (by simp) fun w7 h7 hs7 hb7 => ?_
    repeat (first | refine kN_at ?_ | refine kB_at ?_ | refine kfld_of ?_ | refine kext_at rfl ?_ | refine kG_of (by first | exact rfl | omega) ?_ | refine klen_at ?_ | refine eql_at ?_ | refine neq_at ?_ | refine lss_at ?_ | refine leq_at ?_ | refine gtr_at ?_ | refine geq_at ?_ | refine add_at (by omega) (by omega) ?_ | refine sub_at (by omega) (by omega) ?_ | refine not_at ?_ | refine kO_at ?_ | refine kprt_at rfl ?_ | refine kprtN_at rfl ?_ | refine kcap_at ?_ | refine klenStr_at ?_ | refine kN_iat ?_ | refine kN_fat ?_ | refine kIf_T (by first | exact rfl | exact decT (by omega) | exact notT (decF (by omega))) ?_ | refine kIf_F (by first | exact rfl | exact decF (by omega) | exact notF (decT (by omega))) ?_)
    rw [kix_array]
    refine kG_of (by omega) ?_
    rw [add_mk, Int.toNat_natCast, Nat.mul_one, Nat.zero_add]
    refine kst_of (vs := [nV (-1)]) hb7 rfl rfl rfl (by rw [setAll_size]; simp [hlen]; omega) (by simp) fun w10 h10 hs10 hb10 => ?_
    rw [nodeC_step m j hlt] at hb10
    repeat (first | refine kN_at ?_ | refine kB_at ?_ | refine kfld_of ?_ | refine kext_at rfl ?_ | refine kG_of (by first | exact rfl | omega) ?_ | refine klen_at ?_ | refine eql_at ?_ | refine neq_at ?_ | refine lss_at ?_ | refine leq_at ?_ | refine gtr_at ?_ | refine geq_at ?_ | refine add_at (by omega) (by omega) ?_ | refine sub_at (by omega) (by omega) ?_ | refine not_at ?_ | refine kO_at ?_ | refine kprt_at rfl ?_ | refine kprtN_at rfl ?_ | refine kcap_at ?_ | refine klenStr_at ?_ | refine kN_iat ?_ | refine kN_fat ?_ | refine kIf_T (by first | exact rfl | exact decT (by omega) | exact notT (decF (by omega))) ?_ | refine kIf_F (by first | exact rfl | exact decF (by omega) | exact notF (decT (by omega))) ?_)
    rw [cast_succ]
    exact hJ _ _ hlt ⟨rfl, by omega, hb10, hmr.trans (h7.trans h10), by omega⟩
  · have : j = 16 := by omega
    subst this
    rw [nodeC_16] at hbr
    clear hJ hx
    have mr : Same w wr := hm3.trans' (hmr.mono fun k _ e => .inr (by omega))
    have hba := mr.get hb (fun h => h)
    obtain ⟨na, nn, nc, rfl, hns, hnn⟩ := hO.is
    have hnn : nn = nodes.length := by simpa using hnn rfl
    subst hnn
    unfold f135_3
    repeat (first | refine kN_at ?_ | refine kB_at ?_ | refine kfld_of ?_ | refine kext_at rfl ?_ | refine kld_at hba rfl ?_ | refine kldN_at hba rfl (by omega) ?_ | refine kG_of (by first | exact rfl | omega) ?_ | refine klen_at ?_ | refine eql_at ?_ | refine neq_at ?_ | refine lss_at ?_ | refine leq_at ?_ | refine gtr_at ?_ | refine geq_at ?_ | refine add_at (by omega) (by omega) ?_ | refine sub_at (by omega) (by omega) ?_ | refine not_at ?_ | refine kO_at ?_ | refine kprt_at rfl ?_ | refine kprtN_at rfl ?_ | refine kcap_at ?_ | refine klenStr_at ?_ | refine kN_iat ?_ | refine kN_fat ?_ | refine kIf_T (by first | exact rfl | exact decT (by omega) | exact notT (decF (by omega))) ?_ | refine kIf_F (by first | exact rfl | exact decF (by omega) | exact notF (decT (by omega))) ?_)
    refine kbldS_of (cs := [ptrV w.heap.size]) rfl fun w19 h19 hs19 hb19 => ?_
    have hO19 := (hO.same mr).same h19
    refine ksem_append apNode (by omega) hO19 (Src.ofSlIs (hk := slNode_is.choose_spec) 1 (SlIs.blk hb19 rfl) rfl) (by simp; omega) (by simp; omega) ?_
    intro v' w21 ho21 hm21 hf21
    have hb21 := hm21.get (h19.get hba (fun h => h)) (fun e => by have := hl b e; rw [h1] at this; cases this)
    obtain ⟨a', n', c', rfl, _⟩ := ho21.is
    repeat (first | refine kN_at ?_ | refine kB_at ?_ | refine kfld_of ?_ | refine kext_at rfl ?_ | refine kG_of (by first | exact rfl | omega) ?_ | refine klen_at ?_ | refine eql_at ?_ | refine neq_at ?_ | refine lss_at ?_ | refine leq_at ?_ | refine gtr_at ?_ | refine geq_at ?_ | refine add_at (by omega) (by omega) ?_ | refine sub_at (by omega) (by omega) ?_ | refine not_at ?_ | refine kO_at ?_ | refine kprt_at rfl ?_ | refine kprtN_at rfl ?_ | refine kcap_at ?_ | refine klenStr_at ?_ | refine kN_iat ?_ | refine kN_fat ?_ | refine kIf_T (by first | exact rfl | exact decT (by omega) | exact notT (decF (by omega))) ?_ | refine kIf_F (by first | exact rfl | exact decF (by omega) | exact notF (decT (by omega))) ?_)
    refine kst1_of hb21 rfl rfl (by simp) fun w23 h23 hs23 hb23 => ?_
    simp only [List.setIfInBounds_toArray, List.set_cons_succ, List.set_cons_zero] at hb23
    repeat (first | refine kN_at ?_ | refine kB_at ?_ | refine kfld_of ?_ | refine kext_at rfl ?_ | refine kld_at hb23 rfl ?_ | refine kldN_at hb23 rfl (by omega) ?_ | refine kG_of (by first | exact rfl | omega) ?_ | refine klen_at ?_ | refine eql_at ?_ | refine neq_at ?_ | refine lss_at ?_ | refine leq_at ?_ | refine gtr_at ?_ | refine geq_at ?_ | refine add_at (by omega) (by omega) ?_ | refine sub_at (by omega) (by omega) ?_ | refine not_at ?_ | refine kO_at ?_ | refine kprt_at rfl ?_ | refine kprtN_at rfl ?_ | refine kcap_at ?_ | refine klenStr_at ?_ | refine kN_iat ?_ | refine kN_fat ?_ | refine kIf_T (by first | exact rfl | exact decT (by omega) | exact notT (decF (by omega))) ?_ | refine kIf_F (by first | exact rfl | exact decF (by omega) | exact notF (decT (by omega))) ?_)
    have hsmr := mr.size
    have hs19' := h19.size
    have hs21' := hm21.size
    have hnv : ∀ k, vblk (.slice a' n' c') k → vblk (.slice na nodes.length nc) k ∨ w19.heap.size ≤ k := hf21
    have hMm : Mod (fun k => k = b ∨ vblk (.slice na nodes.length nc) k) w w23 := (Mod.of_same (mr.trans h19)).trans ((hm21.mono fun k _ e => .inr e).trans (h23.mono fun k _ e => .inl e))
    have hM23 : MapIs w23 bm .u32 (mapM 0 (nodes.map (·.mask))) := hM.mod hMm fun e => by
      rcases e with e | e
      · exact nbm e
      · have := hl _ e; rw [hbm] at this; cases this
    have hlk : lkI (m : Int) (mapM 0 (nodes.map (·.mask))) = none := by rw [lk_mapM, if_neg hnew]
    refine kmapUp_of Tryz.underlying221 Tryz.underlying24 hM23 hlk fun w27 h27 hs27 hM27 => ?_
    have hb27 := h27.get hb23 nbm.symm
    have hnode23 : blk w23 w.heap.size = some (.cells (NodeM.new m).cells.toArray 236) := h23.get (hm21.get (h19.get hbr (fun h => h)) (fun e => by have := hO.vblk_lt e; omega)) (by omega)
    have hall : Mod (FP o atlasTag) w w27 := (hMm.mono fun k _ e => by
      rcases e with rfl | e
      · exact ⟨_, h1, .inl rfl⟩
      · exact ⟨_, hl k e, .inr (.inl rfl)⟩).trans (h27.mono fun k _ e => by
      subst e
      exact ⟨_, hbm, .inr (.inr (.inl rfl))⟩)
    refine ⟨rfl, growLab o w.heap.size w.heap.size w19.heap.size nodes.length, updN pn nodes.length w.heap.size, fun k hk => by unfold growLab; rw [if_pos hk], fun i hi => updN_ne _ (by omega), ⟨by unfold growLab; rw [if_pos lb]; exact h1, h2, by simp; omega, _, bm, hb27, ?_, ?_, by unfold growLab; rw [if_pos lbm]; exact hbm, ?_, ?_⟩, hall⟩
    · have e : (List.range (nodes ++ [NodeM.new m]).length).map (fun i => ptrV (updN pn nodes.length w.heap.size i)) = (List.range nodes.length).map (fun i => ptrV (pn i)) ++ [ptrV w.heap.size] := by
        rw [List.length_append, List.length_cons, List.length_nil, List.range_succ, List.map_append, List.map_cons, List.map_nil, updN_same]
        congr 1
        apply List.map_congr_left
        intro i hi
        rw [updN_ne _ (by simp at hi; omega)]
      rw [e]
      refine (ho21.mod h23 fun k hk e => ?_).mod h27 fun k hk e => ?_
      · subst e
        rcases hnv _ hk with h | h
        · have := hl _ h; rw [h1] at this; cases this
        · omega
      · subst e
        rcases hnv _ hk with h | h
        · have := hl _ h; rw [hbm] at this; cases this
        · omega
    · intro k hk
      unfold growLab
      rcases hnv k hk with h | h
      · have := hO.vblk_lt h
        rw [if_pos (by omega)]; exact hl k h
      · rw [if_neg (by omega), if_neg (by omega), if_neg (by omega)]
    · rw [List.map_append, List.map_cons, List.map_nil, mapM_append]
      have e : 0 + (nodes.map (·.mask)).length = nodes.length := by simp
      rw [e]
      exact hM27
    · intro i hi
      simp only [List.length_append, List.length_cons, List.length_nil] at hi
      by_cases hlast : i = nodes.length
      · subst hlast
        rw [updN_same]
        have e : (nodes ++ [NodeM.new m])[nodes.length]'(by simp) = NodeM.new m := by simp
        simp only [e]
        exact ⟨by unfold growLab; rw [if_neg (by omega), if_pos rfl], h27.get hnode23 (by omega), rfl, rfl, hm32⟩
      · have hi' : i < nodes.length := by omega
        rw [updN_ne _ hlast]
        have e : (nodes ++ [NodeM.new m])[i]'(by simp; omega) = nodes[i] := by rw [List.getElem_append_left hi']
        simp only [e]
        obtain ⟨g1, g2, g3⟩ := hN i hi'
        have hlt := lt_of_blk g2
        refine ⟨by unfold growLab; rw [if_pos hlt]; exact g1, h27.get (hMm.get g2 ?_) ?_, g3⟩
        · rintro (e | e)
          · rw [e, h1] at g1; cases g1
          · have := hl _ e; rw [g1] at this; cases this
        · intro e
          rw [e, hbm] at g1; cases g1
end Go.Proofs.YtlkpadfkmdgjcaaGreatDoor
end
section
set_option linter.unusedSimpArgs false
set_option linter.unusedVariables false
namespace Go.Proofs.YtlkpadfkmdgjcaaGreatDoor
open Go Go.Ev
set_option linter.unusedVariables false
set_option linter.unusedSimpArgs false
set_option maxRecDepth 100000
attribute [local irreducible] kO kB kStr kInt kN kG kIf kfld kld kldN kst knew kmap kbld kbldS kext kcnv klenStr klen kcap kprt kprtN kbool kint kstr keq kun ksl kix kiv kta kmk kmm ksem ksemU kextf kcallV kcallM kcall kL

def addM (ms : List Nat) (m : Nat) : List Nat := if m ∈ ms then ms else ms ++ [m]
theorem addM_mem (ms : List Nat) (m : Nat) : m ∈ addM ms m := by
  unfold addM; split
  · assumption
  · simp
theorem mz_int : zeroO Tryz.prog 3 = some (.int .i64 0) := by kernel_rfl
theorem shr_mask {m n : Nat} (hm : m < 4294967296) (hn : n ≤ 16) : ishr .u32 (m : Int) (n : Int) = ((m / 2 ^ n : Nat) : Int) := shr_nat m n (by show n ≤ 32; omega)
theorem atAt_spec {o : Lab} {w : World} {b n : Nat} {pn : Nat → Nat} {nodes : List NodeM} (h : AtlasN o w b n pn nodes) (m : Nat) (hm : m < 2 ^ n) (hlen : nodes.length < 100000) :
    Meets Tryz.prog 76 #[ptrV b, msk m] w fun v w' => ∃ o' pn' nodes', v = .tuple #[natV ((nodes'.map (·.mask)).idxOf m), .nilIface] ∧ LabEq w o o' ∧ (∀ i, i < nodes.length → pn' i = pn i) ∧ AtlasN o' w' b n pn' nodes' ∧ Mod (FP o atlasTag) w w' ∧
      (nodes' = nodes ∧ m ∈ nodes.map (·.mask) ∨ nodes' = nodes ++ [NodeM.new m] ∧ m ∉ nodes.map (·.mask)) := by
  obtain ⟨h1, h2, h3, nv, bm, hb, hO, hl, hbm, hM, hN⟩ := id h
  have h16 : m < 4294967296 := by
    have : 2 ^ n ≤ 2 ^ 16 := Nat.pow_le_pow_right (by omega) h2
    omega
  refine f76_ok ?_
  unfold f76
  rw [ptrV, keq_ptr_nil ptAtl]
  repeat (first | refine kN_at ?_ | refine kB_at ?_ | refine kfld_of ?_ | refine kext_at rfl ?_ | refine kld_at hb rfl ?_ | refine kldN_at hb rfl (by omega) ?_ | refine kG_of (by first | exact rfl | omega) ?_ | refine klen_at ?_ | refine eql_at ?_ | refine neq_at ?_ | refine lss_at ?_ | refine leq_at ?_ | refine gtr_at ?_ | refine geq_at ?_ | refine add_at (by omega) (by omega) ?_ | refine sub_at (by omega) (by omega) ?_ | refine not_at ?_ | refine kO_at ?_ | refine kprt_at rfl ?_ | refine kprtN_at rfl ?_ | refine kcap_at ?_ | refine klenStr_at ?_ | refine kN_iat ?_ | refine kN_fat ?_ | refine kIf_T (by first | exact rfl | exact decT (by omega) | exact notT (decF (by omega))) ?_ | refine kIf_F (by first | exact rfl | exact decF (by omega) | exact notF (decT (by omega))) ?_)
  rw [msk, kint_shr]
  refine kG_of (by omega) ?_
  rw [shr_mask h16 h2, Nat.div_eq_of_lt hm]
  repeat (first | refine kN_at ?_ | refine kB_at ?_ | refine kfld_of ?_ | refine kext_at rfl ?_ | refine kld_at hb rfl ?_ | refine kldN_at hb rfl (by omega) ?_ | refine kG_of (by first | exact rfl | omega) ?_ | refine klen_at ?_ | refine eql_at ?_ | refine neq_at ?_ | refine lss_at ?_ | refine leq_at ?_ | refine gtr_at ?_ | refine geq_at ?_ | refine add_at (by omega) (by omega) ?_ | refine sub_at (by omega) (by omega) ?_ | refine not_at ?_ | refine kO_at ?_ | refine kprt_at rfl ?_ | refine kprtN_at rfl ?_ | refine kcap_at ?_ | refine klenStr_at ?_ | refine kN_iat ?_ | refine kN_fat ?_ | refine kIf_T (by first | exact rfl | exact decT (by omega) | exact notT (decF (by omega))) ?_ | refine kIf_F (by first | exact rfl | exact decF (by omega) | exact notF (decT (by omega))) ?_)
  by_cases hin : m ∈ nodes.map (·.mask)
  · refine klookOk_of Tryz.underlying221 Tryz.underlying24 mz_int hM (r := some (_, _)) (by rw [lk_mapM, if_pos hin]) ?_
    repeat (first | refine kN_at ?_ | refine kB_at ?_ | refine kfld_of ?_ | refine kext_at rfl ?_ | refine kG_of (by first | exact rfl | omega) ?_ | refine klen_at ?_ | refine eql_at ?_ | refine neq_at ?_ | refine lss_at ?_ | refine leq_at ?_ | refine gtr_at ?_ | refine geq_at ?_ | refine add_at (by omega) (by omega) ?_ | refine sub_at (by omega) (by omega) ?_ | refine not_at ?_ | refine kO_at ?_ | refine kprt_at rfl ?_ | refine kprtN_at rfl ?_ | refine kcap_at ?_ | refine klenStr_at ?_ | refine kN_iat ?_ | refine kN_fat ?_ | refine kIf_T (by first | exact rfl | exact decT (by omega) | exact notT (decF (by omega))) ?_ | refine kIf_F (by first | exact rfl | exact decF (by omega) | exact notF (decT (by omega))) ?_)
    refine ⟨o, pn, nodes, by simp [natV], LabEq.refl _ _, fun _ _ => rfl, h, Mod.refl _ _, .inl ⟨rfl, hin⟩⟩
  · refine klookOk_of Tryz.underlying221 Tryz.underlying24 mz_int hM (r := none) (by rw [lk_mapM, if_neg hin]) ?_
    repeat (first | refine kN_at ?_ | refine kB_at ?_ | refine kfld_of ?_ | refine kext_at rfl ?_ | refine kG_of (by first | exact rfl | omega) ?_ | refine klen_at ?_ | refine eql_at ?_ | refine neq_at ?_ | refine lss_at ?_ | refine leq_at ?_ | refine gtr_at ?_ | refine geq_at ?_ | refine add_at (by omega) (by omega) ?_ | refine sub_at (by omega) (by omega) ?_ | refine not_at ?_ | refine kO_at ?_ | refine kprt_at rfl ?_ | refine kprtN_at rfl ?_ | refine kcap_at ?_ | refine klenStr_at ?_ | refine kN_iat ?_ | refine kN_fat ?_ | refine kIf_T (by first | exact rfl | exact decT (by omega) | exact notT (decF (by omega))) ?_ | refine kIf_F (by first | exact rfl | exact decF (by omega) | exact notF (decT (by omega))) ?_)
    refine kcall_of (grow_spec h m h16 hin hlen) ?_
    rintro v w' ⟨rfl, o', pn', g1, g2, g3, g4⟩
    repeat (first | refine kN_at ?_ | refine kB_at ?_ | refine kfld_of ?_ | refine kext_at rfl ?_ | refine kG_of (by first | exact rfl | omega) ?_ | refine klen_at ?_ | refine eql_at ?_ | refine neq_at ?_ | refine lss_at ?_ | refine leq_at ?_ | refine gtr_at ?_ | refine geq_at ?_ | refine add_at (by omega) (by omega) ?_ | refine sub_at (by omega) (by omega) ?_ | refine not_at ?_ | refine kO_at ?_ | refine kprt_at rfl ?_ | refine kprtN_at rfl ?_ | refine kcap_at ?_ | refine klenStr_at ?_ | refine kN_iat ?_ | refine kN_fat ?_ | refine kIf_T (by first | exact rfl | exact decT (by omega) | exact notT (decF (by omega))) ?_ | refine kIf_F (by first | exact rfl | exact decF (by omega) | exact notF (decT (by omega))) ?_)
    refine ⟨o', pn', _, ?_, g1, g2, g3, g4, .inr ⟨rfl, hin⟩⟩
    rw [List.map_append, List.idxOf_append, if_neg hin]
    simp [NodeM.new]
theorem node_spec {o : Lab} {w : World} {b n : Nat} {pn : Nat → Nat} {nodes : List NodeM} (h : AtlasN o w b n pn nodes) (i : Nat) (hi : i < nodes.length) :
    Meets Tryz.prog 154 #[ptrV b, .int .i64 i] w fun v w' => v = .tuple #[ptrV (pn i), .nilIface] ∧ w' = w := by
  obtain ⟨h1, h2, h3, nv, bm, hb, hO, hl, hbm, hM, hN⟩ := id h
  obtain ⟨na, nn, nc, rfl, hns, hnn⟩ := hO.is
  have hnn : nn = nodes.length := by simpa using hnn rfl
  subst hnn
  refine f154_ok ?_
  unfold f154
  rw [ptrV, keq_ptr_nil ptAtl]
  repeat (first | refine kN_at ?_ | refine kB_at ?_ | refine kfld_of ?_ | refine kext_at rfl ?_ | refine kld_at hb rfl ?_ | refine kldN_at hb rfl (by omega) ?_ | refine kG_of (by first | exact rfl | omega) ?_ | refine klen_at ?_ | refine eql_at ?_ | refine neq_at ?_ | refine lss_at ?_ | refine leq_at ?_ | refine gtr_at ?_ | refine geq_at ?_ | refine add_at (by omega) (by omega) ?_ | refine sub_at (by omega) (by omega) ?_ | refine not_at ?_ | refine kO_at ?_ | refine kprt_at rfl ?_ | refine kprtN_at rfl ?_ | refine kcap_at ?_ | refine klenStr_at ?_ | refine kN_iat ?_ | refine kN_fat ?_ | refine kIf_T (by first | exact rfl | exact decT (by omega) | exact notT (decF (by omega))) ?_ | refine kIf_F (by first | exact rfl | exact decF (by omega) | exact notF (decT (by omega))) ?_)
  have hns' : SlIs w na (List.range nodes.length).length 1 ((List.range nodes.length).map fun i => ptrV (pn i)) := by simpa using hns
  have e : nodes.length = (List.range nodes.length).length := by simp
  rw [e]
  refine kixld_of (F := fun i => ptrV (pn i)) hns' (by simpa using hi) rfl ?_
  simp [ptrV]
theorem mask_spec {o : Lab} {w : World} {b n : Nat} {pn : Nat → Nat} {nodes : List NodeM} (h : AtlasN o w b n pn nodes) (i : Nat) (hi : i < nodes.length) :
    Meets Tryz.prog 103 #[ptrV b, .int .i64 i] w fun v w' => v = .tuple #[msk (nodes[i]).mask, .nilIface] ∧ w' = w := by
  obtain ⟨h1, h2, h3, nv, bm, hb, hO, hl, hbm, hM, hN⟩ := id h
  obtain ⟨g1, g2, g3⟩ := hN i hi
  refine f103_ok ?_
  unfold f103
  refine kcall_of (node_spec h i hi) ?_
  rintro v w' ⟨rfl, rfl⟩
  repeat (first | refine kN_at ?_ | refine kB_at ?_ | refine kfld_of ?_ | refine kext_at rfl ?_ | refine kG_of (by first | exact rfl | omega) ?_ | refine klen_at ?_ | refine eql_at ?_ | refine neq_at ?_ | refine lss_at ?_ | refine leq_at ?_ | refine gtr_at ?_ | refine geq_at ?_ | refine add_at (by omega) (by omega) ?_ | refine sub_at (by omega) (by omega) ?_ | refine not_at ?_ | refine kO_at ?_ | refine kprt_at rfl ?_ | refine kprtN_at rfl ?_ | refine kcap_at ?_ | refine klenStr_at ?_ | refine kN_iat ?_ | refine kN_fat ?_ | refine kIf_T (by first | exact rfl | exact decT (by omega) | exact notT (decF (by omega))) ?_ | refine kIf_F (by first | exact rfl | exact decF (by omega) | exact notF (decT (by omega))) ?_)
  rw [keq_nil_nil' ifErr]
  rw [ptrV]
  repeat (first | refine kN_at ?_ | refine kB_at ?_ | refine kfld_of ?_ | refine kext_at rfl ?_ | refine kld_at g2 rfl ?_ | refine kldN_at g2 rfl (by omega) ?_ | refine kG_of (by first | exact rfl | omega) ?_ | refine klen_at ?_ | refine eql_at ?_ | refine neq_at ?_ | refine lss_at ?_ | refine leq_at ?_ | refine gtr_at ?_ | refine geq_at ?_ | refine add_at (by omega) (by omega) ?_ | refine sub_at (by omega) (by omega) ?_ | refine not_at ?_ | refine kO_at ?_ | refine kprt_at rfl ?_ | refine kprtN_at rfl ?_ | refine kcap_at ?_ | refine klenStr_at ?_ | refine kN_iat ?_ | refine kN_fat ?_ | refine kIf_T (by first | exact rfl | exact decT (by omega) | exact notT (decF (by omega))) ?_ | refine kIf_F (by first | exact rfl | exact decF (by omega) | exact notF (decT (by omega))) ?_)
  exact ⟨rfl, rfl⟩
theorem len_spec {o : Lab} {w : World} {b n : Nat} {pn : Nat → Nat} {nodes : List NodeM} (h : AtlasN o w b n pn nodes) :
    Meets Tryz.prog 136 #[ptrV b] w fun v w' => v = natV nodes.length ∧ w' = w := by
  obtain ⟨h1, h2, h3, nv, bm, hb, hO, hl, hbm, hM, hN⟩ := id h
  obtain ⟨na, nn, nc, rfl, hns, hnn⟩ := hO.is
  have hnn : nn = nodes.length := by simpa using hnn rfl
  subst hnn
  refine f136_ok ?_
  unfold f136
  rw [ptrV, keq_ptr_nil ptAtl]
  repeat (first | refine kN_at ?_ | refine kB_at ?_ | refine kfld_of ?_ | refine kext_at rfl ?_ | refine kld_at hb rfl ?_ | refine kldN_at hb rfl (by omega) ?_ | refine kG_of (by first | exact rfl | omega) ?_ | refine klen_at ?_ | refine eql_at ?_ | refine neq_at ?_ | refine lss_at ?_ | refine leq_at ?_ | refine gtr_at ?_ | refine geq_at ?_ | refine add_at (by omega) (by omega) ?_ | refine sub_at (by omega) (by omega) ?_ | refine not_at ?_ | refine kO_at ?_ | refine kprt_at rfl ?_ | refine kprtN_at rfl ?_ | refine kcap_at ?_ | refine klenStr_at ?_ | refine kN_iat ?_ | refine kN_fat ?_ | refine kIf_T (by first | exact rfl | exact decT (by omega) | exact notT (decF (by omega))) ?_ | refine kIf_F (by first | exact rfl | exact decF (by omega) | exact notF (decT (by omega))) ?_)
  exact ⟨rfl, rfl⟩
def atlasLab (o : Lab) (bm b k : Nat) : Option Tag := if k < bm then o k else if k = bm then some .amap else some .atlas
theorem aNew_spec (o : Lab) (ho : ∀ k t, o k = some t → ¬ atlasTag t) (w : World) (n : Nat) (hn : n ≤ 16) : Meets Tryz.prog 70 #[.int .i64 n] w fun v w' =>
    ∃ b o' pn, v = .tuple #[ptrV b, .nilIface] ∧ LabEq w o o' ∧ AtlasN o' w' b n pn [NodeM.new 0] ∧ Same w w' := by
  refine f70_ok ?_
  unfold f70
  repeat (first | refine kN_at ?_ | refine kB_at ?_ | refine kfld_of ?_ | refine kext_at rfl ?_ | refine kG_of (by first | exact rfl | omega) ?_ | refine klen_at ?_ | refine eql_at ?_ | refine neq_at ?_ | refine lss_at ?_ | refine leq_at ?_ | refine gtr_at ?_ | refine geq_at ?_ | refine add_at (by omega) (by omega) ?_ | refine sub_at (by omega) (by omega) ?_ | refine not_at ?_ | refine kO_at ?_ | refine kprt_at rfl ?_ | refine kprtN_at rfl ?_ | refine kcap_at ?_ | refine klenStr_at ?_ | refine kN_iat ?_ | refine kN_fat ?_ | refine kIf_T (by first | exact rfl | exact decT (by omega) | exact notT (decF (by omega))) ?_ | refine kIf_F (by first | exact rfl | exact decF (by omega) | exact notF (decT (by omega))) ?_)
  unfold f70_1
  refine kmap_of fun w8 h8 hs8 hm8 => ?_
  refine kbld_of (cs := [.int .i64 n, .slice none 0 0, .map (some w.heap.size)]) rfl ?_
  refine knew_of fun w11 h11 hs11 hb11 => ?_
  have hb11 : blk w11 w8.heap.size = some (.cells #[.int .i64 n, .slice none 0 0, .map (some w.heap.size)] 224) := hb11
  have hA : AtlasN (atlasLab o w.heap.size w8.heap.size) w11 w8.heap.size n (fun _ => 0) [] :=
    ⟨by unfold atlasLab; rw [if_neg (by omega), if_neg (by omega)], hn, by simp, _, _, hb11, Own.nil _ _, (fun k hk => by obtain ⟨_, _, _, e⟩ := hk; cases e), by unfold atlasLab; rw [if_neg (by omega), if_pos rfl], (hm8 .u32).same h11, (fun i hi => by simp at hi)⟩
  refine kcall_of (grow_spec hA 0 (by decide) (by simp) (by decide)) ?_
  rintro v w13 ⟨rfl, o', pn', g1, g2, g3, g4⟩
  refine ⟨_, o', pn', rfl, fun k hk => ?_, g3, (h8.trans h11).trans' (g4.mono fun k hlt hk => ?_)⟩
  · rw [g1 k (by omega)]
    unfold atlasLab
    rw [if_pos hk]
  · right
    obtain ⟨t, e1, e2⟩ := hk
    rcases Nat.lt_or_ge k w.heap.size with hk2 | hk2
    · unfold atlasLab at e1
      rw [if_pos hk2] at e1
      exact absurd e2 (ho k t e1)
    · exact hk2
/-! ### Edges -/
/-- What an edge remembers, if anything, is where it leads. -/
def EdgeOk (n : Nat) (masks : List Nat) (x : NodeM) : Prop := ∀ c, c < n → (x.wth[c]? = some (-1) ∨ ∃ t : Nat, x.wth[c]? = some (t : Int) ∧ masks[t]? = some (x.mask ||| 2 ^ c)) ∧ (x.wout[c]? = some (-1) ∨ ∃ t : Nat, x.wout[c]? = some (t : Int) ∧ masks[t]? = some (andN x.mask (2 ^ c)))
theorem EdgeOk.grow {n : Nat} {masks : List Nat} {x : NodeM} (h : EdgeOk n masks x) (m : Nat) : EdgeOk n (addM masks m) x := by
  have hg : ∀ t k : Nat, masks[t]? = some k → (addM masks m)[t]? = some k := by
    intro t k ht
    unfold addM
    split
    · exact ht
    · rw [List.getElem?_append_left (List.getElem?_eq_some_iff.1 ht).1]; exact ht
  intro c hc
  obtain ⟨h1, h2⟩ := h c hc
  refine ⟨h1.imp id ?_, h2.imp id ?_⟩
  · rintro ⟨t, e1, e2⟩; exact ⟨t, e1, hg t _ e2⟩
  · rintro ⟨t, e1, e2⟩; exact ⟨t, e1, hg t _ e2⟩
theorem EdgeOk.new (n : Nat) (hn : n ≤ 16) (masks : List Nat) (m : Nat) : EdgeOk n masks (NodeM.new m) := by
  intro c hc
  have : c < 16 := by omega
  have e : (List.replicate 16 (-1 : Int))[c]? = some (-1) := by rw [List.getElem?_replicate, if_pos this]
  exact ⟨.inl e, .inl e⟩
/-- The atlas of these sets. -/
def AtlasAt (o : Lab) (w : World) (b n : Nat) (masks : List Nat) : Prop := ∃ pn nodes, AtlasN o w b n pn nodes ∧ nodes.map (·.mask) = masks ∧ masks.Nodup ∧ (∀ x ∈ nodes, EdgeOk n masks x) ∧ ∀ m ∈ masks, m < 2 ^ n
theorem AtlasAt.frame {o o' : Lab} {w w' : World} {b n : Nat} {masks : List Nat} (h : AtlasAt o w b n masks) {fp : Nat → Prop} (hm : Mod fp w w') (hf : ∀ k t, o k = some t → atlasTag t → ¬ fp k) (ho : LabEq w o o') : AtlasAt o' w' b n masks := by
  obtain ⟨pn, nodes, h1, h2⟩ := h
  exact ⟨pn, nodes, h1.frame hm hf ho, h2⟩
theorem AtlasAt.same {o : Lab} {w w' : World} {b n : Nat} {masks : List Nat} (h : AtlasAt o w b n masks) (hm : Same w w') : AtlasAt o w' b n masks := h.frame hm (fun _ _ _ _ h => h) (LabEq.refl _ _)
theorem addM_nodup {ms : List Nat} (h : ms.Nodup) (m : Nat) : (addM ms m).Nodup := by
  unfold addM; split
  · exact h
  · rw [List.nodup_append]
    refine ⟨h, by simp, ?_⟩
    intro a ha b hb
    have : b = m := by simpa using hb
    subst this
    rintro rfl
    contradiction
theorem addM_of {nodes nodes' : List NodeM} {m : Nat} (h : nodes' = nodes ∧ m ∈ nodes.map (·.mask) ∨ nodes' = nodes ++ [NodeM.new m] ∧ m ∉ nodes.map (·.mask)) : nodes'.map (·.mask) = addM (nodes.map (·.mask)) m := by
  unfold addM
  rcases h with ⟨rfl, h⟩ | ⟨rfl, h⟩
  · rw [if_pos h]
  · rw [if_neg h]; simp [NodeM.new]
theorem addM_lt {n : Nat} {ms : List Nat} {m : Nat} (h : ∀ x ∈ ms, x < 2 ^ n) (hm : m < 2 ^ n) : ∀ x ∈ addM ms m, x < 2 ^ n := by
  intro x hx
  unfold addM at hx
  split at hx
  · exact h x hx
  · rcases List.mem_append.1 hx with h1 | h1
    · exact h x h1
    · have : x = m := by simpa using h1
      omega
theorem at_spec {o : Lab} {w : World} {b n : Nat} {masks : List Nat} (h : AtlasAt o w b n masks) (m : Nat) (hm : m < 2 ^ n) (hlen : masks.length < 100000) :
    Meets Tryz.prog 76 #[ptrV b, msk m] w fun v w' => v = .tuple #[natV ((addM masks m).idxOf m), .nilIface] ∧ ∃ o', LabEq w o o' ∧ AtlasAt o' w' b n (addM masks m) ∧ Mod (FP o atlasTag) w w' := by
  obtain ⟨pn, nodes, hN, rfl, hnd, hE, hlt⟩ := h
  have hn := hN.2.1
  refine (atAt_spec hN m hm (by simpa using hlen)).mono ?_
  rintro v w' ⟨o', pn', nodes', rfl, g1, g2, g3, g4, g5⟩
  have e := addM_of g5
  refine ⟨by rw [e], o', g1, ⟨pn', nodes', g3, e, addM_nodup hnd m, ?_, addM_lt hlt hm⟩, g4⟩
  intro x hx
  rcases g5 with ⟨rfl, _⟩ | ⟨rfl, _⟩
  · exact (hE x hx).grow m
  · rcases List.mem_append.1 hx with h1 | h1
    · exact (hE x h1).grow m
    · have : x = NodeM.new m := by simpa using h1
      subst this
      exact EdgeOk.new n hn _ m
theorem maskAt_spec {o : Lab} {w : World} {b n : Nat} {masks : List Nat} (h : AtlasAt o w b n masks) (i : Nat) (hi : i < masks.length) :
    Meets Tryz.prog 103 #[ptrV b, .int .i64 i] w fun v w' => v = .tuple #[msk masks[i], .nilIface] ∧ w' = w := by
  obtain ⟨pn, nodes, hN, rfl, _⟩ := h
  refine (mask_spec hN i (by simpa using hi)).mono ?_
  rintro v w' ⟨rfl, rfl⟩
  simp
theorem lenAt_spec {o : Lab} {w : World} {b n : Nat} {masks : List Nat} (h : AtlasAt o w b n masks) :
    Meets Tryz.prog 136 #[ptrV b] w fun v w' => v = natV masks.length ∧ w' = w := by
  obtain ⟨pn, nodes, hN, rfl, _⟩ := h
  refine (len_spec hN).mono ?_
  rintro v w' ⟨rfl, rfl⟩
  simp
theorem newAt_spec (o : Lab) (ho : ∀ k t, o k = some t → ¬ atlasTag t) (w : World) (n : Nat) (hn : n ≤ 16) : Meets Tryz.prog 70 #[.int .i64 n] w fun v w' =>
    ∃ b o', v = .tuple #[ptrV b, .nilIface] ∧ LabEq w o o' ∧ AtlasAt o' w' b n [0] ∧ Same w w' := by
  refine (aNew_spec o ho w n hn).mono ?_
  rintro v w' ⟨b, o', pn, rfl, g1, g2, g3⟩
  refine ⟨b, o', rfl, g1, ⟨pn, _, g2, rfl, by simp, ?_, ?_⟩, g3⟩
  · intro x hx
    have : x = NodeM.new 0 := by simpa using hx
    subst this
    exact EdgeOk.new n hn _ 0
  · intro m hm
    have : m = 0 := by simpa using hm
    subst this
    exact Nat.two_pow_pos n
end Go.Proofs.YtlkpadfkmdgjcaaGreatDoor
end
section
set_option linter.unusedSimpArgs false
set_option linter.unusedVariables false
namespace Go.Proofs.YtlkpadfkmdgjcaaGreatDoor
open Go Go.Ev
set_option linter.unusedVariables false
set_option linter.unusedSimpArgs false
set_option maxRecDepth 100000
attribute [local irreducible] kO kB kStr kInt kN kG kIf kfld kld kldN kst knew kmap kbld kbldS kext kcnv klenStr klen kcap kprt kprtN kbool kint kstr keq kun ksl kix kiv kta kmk kmm ksem ksemU kextf kcallV kcallM kcall kL

theorem bitF_nat {c : Nat} (h : c < 32) : bitF (c : Int) = 2 ^ c := by unfold bitF; rw [if_neg (by omega), if_neg (by omega)]; rfl
/-- A node with another edge. -/
def NodeM.edge (x : NodeM) (more : Bool) (c : Nat) (t : Int) : NodeM := if more then { x with wth := x.wth.set c t } else { x with wout := x.wout.set c t }
theorem edge_mask (x : NodeM) (more : Bool) (c : Nat) (t : Int) : (x.edge more c t).mask = x.mask := by unfold NodeM.edge; split <;> rfl
def eoff (more : Bool) : Nat := if more then 1 else 17
theorem edge_cells (x : NodeM) (h1 : x.wth.length = 16) (h2 : x.wout.length = 16) (more : Bool) (c : Nat) (hc : c < 16) (t : Nat) : setAll [natV t] x.cells.toArray (eoff more + c) = (x.edge more c t).cells.toArray := by
  show x.cells.toArray.setIfInBounds (eoff more + c) (natV t) = _
  rw [List.setIfInBounds_toArray]
  congr 1
  unfold NodeM.cells NodeM.edge eoff
  cases more with
  | true =>
    rw [if_pos rfl, if_pos rfl, show 1 + c = c + 1 by omega, List.set_cons_succ, List.set_append, if_pos (by simp [h1]; exact hc)]
    show msk x.mask :: ((x.wth.map nV).set c (nV t) ++ x.wout.map nV) = _
    rw [← List.map_set]
  | false =>
    rw [if_neg (by decide), if_neg (by decide), show 17 + c = (16 + c) + 1 by omega, List.set_cons_succ, List.set_append, if_neg (by simp [h1]), List.length_map, h1, show 16 + c - 16 = c by omega]
    show msk x.mask :: (x.wth.map nV ++ (x.wout.map nV).set c (nV t)) = _
    rw [← List.map_set]
theorem edge_get (x : NodeM) (h1 : x.wth.length = 16) (h2 : x.wout.length = 16) (more : Bool) (c : Nat) (hc : c < 16) : x.cells[eoff more + c]? = ((if more then x.wth else x.wout)[c]?).map nV := by
  unfold NodeM.cells eoff
  cases more with
  | true =>
    rw [if_pos rfl, if_pos rfl, show 1 + c = c + 1 by omega, List.getElem?_cons_succ, List.getElem?_append_left (by simp [h1]; exact hc), List.getElem?_map]
  | false =>
    rw [if_neg (by decide), if_neg (by decide), show 17 + c = (16 + c) + 1 by omega, List.getElem?_cons_succ, List.getElem?_append_right (by simp [h1]), List.length_map, h1, show 16 + c - 16 = c by omega, List.getElem?_map]
def edgeM (more : Bool) (m c : Nat) : Nat := if more then m ||| 2 ^ c else andN m (2 ^ c)
theorem edgeM_lt {more : Bool} {m c n : Nat} (hm : m < 2 ^ n) (hc : c < n) : edgeM more m c < 2 ^ n := by
  unfold edgeM
  split
  · exact Nat.or_lt_two_pow hm (Nat.pow_lt_pow_right (by omega) hc)
  · exact Nat.lt_of_le_of_lt Nat.and_le_left hm
/-- One node turned. -/
theorem AtlasN.setNode {o : Lab} {w w' : World} {b n : Nat} {pn : Nat → Nat} {nodes : List NodeM} (h : AtlasN o w b n pn nodes) {i : Nat} (hi : i < nodes.length) (x : NodeM) (hx : x.mask = (nodes[i]).mask) (h1' : x.wth.length = 16) (h2' : x.wout.length = 16)
    (hm : Mod (fun k => k = pn i) w w') (hb' : blk w' (pn i) = some (.cells x.cells.toArray 236)) : AtlasN o w' b n pn (nodes.set i x) := by
  obtain ⟨h1, h2, h3, nv, bm, hb, hO, hl, hbm, hM, hN⟩ := h
  obtain ⟨gi1, gi2, gi3, gi4, gi5⟩ := hN i hi
  refine ⟨h1, h2, by simpa using h3, nv, bm, hm.get hb (fun e => by rw [← e, h1] at gi1; cases gi1), ?_, hl, hbm, ?_, fun j hj => ?_⟩
  · rw [List.length_set]
    exact hO.mod hm fun k hk e => by
      have := hl k hk
      rw [e, gi1] at this; cases this
  · have e : (nodes.set i x).map (·.mask) = nodes.map (·.mask) := by
      rw [List.map_set, hx]
      apply List.ext_getElem?
      intro k
      rw [List.getElem?_set]
      split
      · rename_i hk
        subst hk
        rw [if_pos (by simpa using hi), List.getElem?_map, List.getElem?_eq_getElem hi]; rfl
      · rfl
    rw [e]
    exact hM.mod hm fun e => by rw [← e, hbm] at gi1; cases gi1
  · rw [List.length_set] at hj
    rw [List.getElem_set]
    by_cases hij : i = j
    · subst hij
      rw [if_pos rfl]
      exact ⟨gi1, hb', h1', h2', by rw [hx]; exact gi5⟩
    · rw [if_neg hij]
      obtain ⟨g1, g2, g3⟩ := hN j hj
      refine ⟨g1, hm.get g2 (fun e => ?_), g3⟩
      rw [e, gi1] at g1
      injection g1 with e1
      injection e1 with e2
      exact hij e2
theorem edge_spec {o : Lab} {w : World} {b n : Nat} {masks : List Nat} (h : AtlasAt o w b n masks) (i : Nat) (hi : i < masks.length) (c : Nat) (hc : c < n) (more : Bool) (hlen : masks.length < 100000) :
    Meets Tryz.prog 145 #[ptrV b, .int .i64 i, .int .i64 c, .bool more] w fun v w' => v = .tuple #[natV ((addM masks (edgeM more masks[i] c)).idxOf (edgeM more masks[i] c)), .nilIface] ∧ ∃ o', LabEq w o o' ∧ AtlasAt o' w' b n (addM masks (edgeM more masks[i] c)) ∧ Mod (FP o atlasTag) w w' := by
  obtain ⟨pn, nodes, hN, rfl, hnd, hE, hlt⟩ := h
  have hi' : i < nodes.length := by simpa using hi
  obtain ⟨h1, h2, h3, nv, bm, hb, hO, hl, hbm, hM, hNs⟩ := id hN
  obtain ⟨gi1, gi2, gi3, gi4, gi5⟩ := hNs i hi'
  have hmi : (nodes.map (·.mask))[i] = (nodes[i]).mask := by simp
  rw [hmi]
  have hm2 : (nodes[i]).mask < 2 ^ n := hlt _ (by rw [← hmi]; exact List.getElem_mem _)
  have hem := edgeM_lt (more := more) hm2 hc
  have hp : 2 ^ n ≤ 2 ^ 16 := Nat.pow_le_pow_right (by omega) h2
  have hEi := hE _ (List.getElem_mem hi') c hc
  refine f145_ok ?_
  unfold f145
  refine kcall_of (node_spec hN i hi') ?_
  rintro v w2 ⟨rfl, rfl⟩
  repeat (first | refine kN_at ?_ | refine kB_at ?_ | refine kfld_of ?_ | refine kext_at rfl ?_ | refine kG_of (by first | exact rfl | omega) ?_ | refine klen_at ?_ | refine eql_at ?_ | refine neq_at ?_ | refine lss_at ?_ | refine leq_at ?_ | refine gtr_at ?_ | refine geq_at ?_ | refine add_at (by omega) (by omega) ?_ | refine sub_at (by omega) (by omega) ?_ | refine not_at ?_ | refine kO_at ?_ | refine kprt_at rfl ?_ | refine kprtN_at rfl ?_ | refine kcap_at ?_ | refine klenStr_at ?_ | refine kN_iat ?_ | refine kN_fat ?_ | refine kIf_T (by first | exact rfl | exact decT (by omega) | exact notT (decF (by omega))) ?_ | refine kIf_F (by first | exact rfl | exact decF (by omega) | exact notF (decT (by omega))) ?_)
  rw [keq_nil_nil' ifErr]
  rw [ptrV]
  repeat (first | refine kN_at ?_ | refine kB_at ?_ | refine kfld_of ?_ | refine kext_at rfl ?_ | refine kld_at hb rfl ?_ | refine kldN_at hb rfl (by omega) ?_ | refine kG_of (by first | exact rfl | omega) ?_ | refine klen_at ?_ | refine eql_at ?_ | refine neq_at ?_ | refine lss_at ?_ | refine leq_at ?_ | refine gtr_at ?_ | refine geq_at ?_ | refine add_at (by omega) (by omega) ?_ | refine sub_at (by omega) (by omega) ?_ | refine not_at ?_ | refine kO_at ?_ | refine kprt_at rfl ?_ | refine kprtN_at rfl ?_ | refine kcap_at ?_ | refine klenStr_at ?_ | refine kN_iat ?_ | refine kN_fat ?_ | refine kIf_T (by first | exact rfl | exact decT (by omega) | exact notT (decF (by omega))) ?_ | refine kIf_F (by first | exact rfl | exact decF (by omega) | exact notF (decT (by omega))) ?_)
  rw [ptrV]
  have hN0 : AtlasN o w2.drew b n pn nodes := hN.same (Mod.refl _ _).drew
  have hm0 : Same w2 w2.drew := (Mod.refl _ _).drew
  have hg0 : blk w2.drew (pn i) = _ := gi2
  generalize w2.drew = wa at *
  repeat (first | refine kN_at ?_ | refine kB_at ?_ | refine kfld_of ?_ | refine kext_at rfl ?_ | refine kld_at hg0 rfl ?_ | refine kldN_at hg0 rfl (by omega) ?_ | refine kG_of (by first | exact rfl | omega) ?_ | refine klen_at ?_ | refine eql_at ?_ | refine neq_at ?_ | refine lss_at ?_ | refine leq_at ?_ | refine gtr_at ?_ | refine geq_at ?_ | refine add_at (by omega) (by omega) ?_ | refine sub_at (by omega) (by omega) ?_ | refine not_at ?_ | refine kO_at ?_ | refine kprt_at rfl ?_ | refine kprtN_at rfl ?_ | refine kcap_at ?_ | refine klenStr_at ?_ | refine kN_iat ?_ | refine kN_fat ?_ | refine kIf_T (by first | exact rfl | exact decT (by omega) | exact notT (decF (by omega))) ?_ | refine kIf_F (by first | exact rfl | exact decF (by omega) | exact notF (decT (by omega))) ?_)
  refine kcall_of (Without_spec (nodes[i]).mask c gi5 (by omega) wa) ?_
  rintro v w19 ⟨rfl, rfl⟩
  have key : ∀ (w24 : World), Same w2 w24 → f145_2 (.pointer (some ⟨b, 0, none⟩)) (.int .i64 c) (.pointer (some ⟨pn i, eoff more, none⟩)) (msk (edgeM more (nodes[i]).mask c)) (fun v w' => v = .tuple #[natV ((addM (nodes.map (·.mask)) (edgeM more (nodes[i]).mask c)).idxOf (edgeM more (nodes[i]).mask c)), .nilIface] ∧ ∃ o', LabEq w2 o o' ∧ AtlasAt o' w' b n (addM (nodes.map (·.mask)) (edgeM more (nodes[i]).mask c)) ∧ Mod (FP o atlasTag) w2 w') w24 := by
    intro w24 m24
    have hg24 := m24.get gi2 (fun h => h)
    have hget := edge_get nodes[i] gi3 gi4 more c (by omega)
    have hcase : ((if more then (nodes[i]).wth else (nodes[i]).wout)[c]? = some (-1) ∨ ∃ t : Nat, (if more then (nodes[i]).wth else (nodes[i]).wout)[c]? = some (t : Int) ∧ (nodes.map (·.mask))[t]? = some (edgeM more (nodes[i]).mask c)) := by
      unfold edgeM
      cases more with
      | true => exact hEi.1
      | false => exact hEi.2
    unfold f145_2
    refine kN_at ?_
    rw [kix_array]
    refine kG_of (by omega) ?_
    rw [add_mk, Int.toNat_natCast, Nat.mul_one]
    rcases hcase with hc1 | ⟨t, hc1, hc2⟩
    · rw [hc1] at hget
      refine kld_of (v := nV (-1)) hg24 (by simpa using hget) ?_
      repeat (first | refine kN_at ?_ | refine kB_at ?_ | refine kfld_of ?_ | refine kext_at rfl ?_ | refine kG_of (by first | exact rfl | omega) ?_ | refine klen_at ?_ | refine eql_at ?_ | refine neq_at ?_ | refine lss_at ?_ | refine leq_at ?_ | refine gtr_at ?_ | refine geq_at ?_ | refine add_at (by omega) (by omega) ?_ | refine sub_at (by omega) (by omega) ?_ | refine not_at ?_ | refine kO_at ?_ | refine kprt_at rfl ?_ | refine kprtN_at rfl ?_ | refine kcap_at ?_ | refine klenStr_at ?_ | refine kN_iat ?_ | refine kN_fat ?_ | refine kIf_T (by first | exact rfl | exact decT (by omega) | exact notT (decF (by omega))) ?_ | refine kIf_F (by first | exact rfl | exact decF (by omega) | exact notF (decT (by omega))) ?_)
      refine kcall_of (atAt_spec (hN.same m24) (edgeM more (nodes[i]).mask c) hem (by simpa using hlen)) ?_
      rintro v w29 ⟨o', pn', nodes', rfl, g1, g2, g3, g4, g5⟩
      have e := addM_of g5
      repeat (first | refine kN_at ?_ | refine kB_at ?_ | refine kfld_of ?_ | refine kext_at rfl ?_ | refine kG_of (by first | exact rfl | omega) ?_ | refine klen_at ?_ | refine eql_at ?_ | refine neq_at ?_ | refine lss_at ?_ | refine leq_at ?_ | refine gtr_at ?_ | refine geq_at ?_ | refine add_at (by omega) (by omega) ?_ | refine sub_at (by omega) (by omega) ?_ | refine not_at ?_ | refine kO_at ?_ | refine kprt_at rfl ?_ | refine kprtN_at rfl ?_ | refine kcap_at ?_ | refine klenStr_at ?_ | refine kN_iat ?_ | refine kN_fat ?_ | refine kIf_T (by first | exact rfl | exact decT (by omega) | exact notT (decF (by omega))) ?_ | refine kIf_F (by first | exact rfl | exact decF (by omega) | exact notF (decT (by omega))) ?_)
      rw [keq_nil_nil' ifErr]
      have hi2 : i < nodes'.length := by
        rcases g5 with ⟨rfl, _⟩ | ⟨rfl, _⟩
        · exact hi'
        · simp; omega
      have hni : nodes'[i] = nodes[i] := by
        rcases g5 with ⟨rfl, _⟩ | ⟨rfl, _⟩
        · rfl
        · rw [List.getElem_append_left hi']
      have hpi := g2 i hi'
      obtain ⟨_, q2, _, _, _, _, _, _, _, _, hN'⟩ := id g3
      obtain ⟨p1, p2, p3, p4, p5⟩ := hN' i hi2
      rw [hpi, hni] at p2
      refine kB_at ?_
      refine kIf_F rfl ?_
      unfold f145_3
      refine kN_at ?_
      rw [kix_array]
      refine kG_of (by omega) ?_
      rw [add_mk, Int.toNat_natCast, Nat.mul_one]
      have heo : eoff more + c < 33 := by unfold eoff; split <;> omega
      have hcl : (nodes[i]).cells.length = 33 := by simp [NodeM.cells, gi3, gi4]
      refine kst_of (vs := [natV ((nodes'.map (·.mask)).idxOf (edgeM more (nodes[i]).mask c))]) p2 rfl rfl rfl (by simp [hcl]; omega) (by simp) fun w35 h35 hs35 hb35 => ?_
      rw [edge_cells nodes[i] gi3 gi4 more c (by omega)] at hb35
      unfold f145_4
      refine kN_at ?_
      rw [kix_array]
      refine kG_of (by omega) ?_
      rw [add_mk, Int.toNat_natCast, Nat.mul_one]
      have hw1 : ((nodes[i]).edge more c (((nodes'.map (·.mask)).idxOf (edgeM more (nodes[i]).mask c) : Nat) : Int)).wth.length = 16 := by
        unfold NodeM.edge; split <;> simp [gi3]
      have hw2 : ((nodes[i]).edge more c (((nodes'.map (·.mask)).idxOf (edgeM more (nodes[i]).mask c) : Nat) : Int)).wout.length = 16 := by
        unfold NodeM.edge; split <;> simp [gi4]
      refine kld_of (v := natV ((nodes'.map (·.mask)).idxOf (edgeM more (nodes[i]).mask c))) hb35 ?_ ?_
      · have := edge_get _ hw1 hw2 more c (by omega)
        have e2 : (if more then ((nodes[i]).edge more c (((nodes'.map (·.mask)).idxOf (edgeM more (nodes[i]).mask c) : Nat) : Int)).wth else ((nodes[i]).edge more c (((nodes'.map (·.mask)).idxOf (edgeM more (nodes[i]).mask c) : Nat) : Int)).wout)[c]? = some (((nodes'.map (·.mask)).idxOf (edgeM more (nodes[i]).mask c) : Nat) : Int) := by
          unfold NodeM.edge
          cases more with
          | true =>
            rw [if_pos rfl, if_pos rfl]
            show ((nodes[i]).wth.set c _)[c]? = _
            rw [List.getElem?_set, if_pos rfl, if_pos (by omega)]
          | false =>
            rw [if_neg (by decide), if_neg (by decide)]
            show ((nodes[i]).wout.set c _)[c]? = _
            rw [List.getElem?_set, if_pos rfl, if_pos (by omega)]
        rw [e2] at this
        simpa [natV, nV] using this
      rw [← e]
      have hidx : (nodes'.map (·.mask))[(nodes'.map (·.mask)).idxOf (edgeM more (nodes[i]).mask c)]? = some (edgeM more (nodes[i]).mask c) := by
        have hin : edgeM more (nodes[i]).mask c ∈ nodes'.map (·.mask) := by rw [e]; exact addM_mem _ _
        have hlt' := List.idxOf_lt_length_of_mem hin
        rw [List.getElem?_eq_getElem hlt', List.getElem_idxOf hlt']
      have hset := g3.setNode hi2 ((nodes[i]).edge more c (((nodes'.map (·.mask)).idxOf (edgeM more (nodes[i]).mask c) : Nat) : Int)) (by rw [edge_mask, hni]) hw1 hw2 (w' := w35) (by rw [hpi]; exact h35) (by rw [hpi]; exact hb35)
      have hmaps : (nodes'.set i ((nodes[i]).edge more c (((nodes'.map (·.mask)).idxOf (edgeM more (nodes[i]).mask c) : Nat) : Int))).map (·.mask) = nodes'.map (·.mask) := by
        rw [List.map_set, edge_mask]
        apply List.ext_getElem?
        intro k
        rw [List.getElem?_set]
        split
        · rename_i hk
          subst hk
          rw [if_pos (by simpa using hi2), List.getElem?_map, List.getElem?_eq_getElem hi2, ← hni]; rfl
        · rfl
      have hEall : ∀ x ∈ nodes', EdgeOk n (nodes'.map (·.mask)) x := by
        intro x hx
        rw [e]
        rcases g5 with ⟨rfl, _⟩ | ⟨rfl, _⟩
        · exact (hE x hx).grow _
        · rcases List.mem_append.1 hx with h1 | h1
          · exact (hE x h1).grow _
          · have : x = NodeM.new (edgeM more (nodes[i]).mask c) := by simpa using h1
            subst this
            exact EdgeOk.new n h2 _ _
      refine ⟨rfl, o', fun k hk => g1 k (Nat.lt_of_lt_of_le hk m24.size), ⟨pn', _, hset, hmaps, by rw [e]; exact addM_nodup hnd _, ?_, by rw [e]; exact addM_lt hlt hem⟩, ?_⟩
      · intro x hx
        rcases List.mem_or_eq_of_mem_set hx with h1 | rfl
        · exact hEall x h1
        · have hEx := hEall nodes[i] (hni ▸ List.getElem_mem hi2)
          intro d hd
          obtain ⟨q1, q3⟩ := hEx d hd
          have hcl' : c < (nodes[i]).wth.length ∧ c < (nodes[i]).wout.length := by omega
          unfold NodeM.edge
          unfold edgeM at hidx
          cases more with
          | true =>
            rw [if_pos rfl]
            refine ⟨?_, q3⟩
            by_cases hcd : c = d
            · subst hcd
              right
              refine ⟨_, by rw [List.getElem?_set, if_pos rfl, if_pos hcl'.1], ?_⟩
              exact hidx
            · rw [List.getElem?_set, if_neg hcd]; exact q1
          | false =>
            rw [if_neg (by decide)]
            refine ⟨q1, ?_⟩
            by_cases hcd : c = d
            · subst hcd
              right
              refine ⟨_, by rw [List.getElem?_set, if_pos rfl, if_pos hcl'.2], ?_⟩
              exact hidx
            · rw [List.getElem?_set, if_neg hcd]; exact q3
      · refine (Mod.of_same m24).trans (g4.trans' (h35.mono fun k _ e => ?_))
        subst e
        left
        exact ⟨_, gi1, .inr (.inr (.inr ⟨i, rfl⟩))⟩
    · rw [hc1] at hget
      refine kld_of (v := natV t) hg24 (by simpa [natV, nV] using hget) ?_
      refine eql_at ?_
      refine kB_at ?_
      refine kIf_F (decF (by omega)) ?_
      unfold f145_4
      refine kN_at ?_
      rw [kix_array]
      refine kG_of (by omega) ?_
      rw [add_mk, Int.toNat_natCast, Nat.mul_one]
      refine kld_of (v := natV t) hg24 (by simpa [natV, nV] using hget) ?_
      have hin : edgeM more (nodes[i]).mask c ∈ nodes.map (·.mask) := List.mem_of_getElem? hc2
      have ea : addM (nodes.map (·.mask)) (edgeM more (nodes[i]).mask c) = nodes.map (·.mask) := if_pos hin
      rw [ea]
      have et : (nodes.map (·.mask)).idxOf (edgeM more (nodes[i]).mask c) = t := by
        obtain ⟨ht1, ht2⟩ := List.getElem?_eq_some_iff.1 hc2
        rw [← ht2]
        exact hnd.idxOf_getElem t ht1
      rw [et]
      exact ⟨rfl, o, LabEq.refl _ _, ⟨pn, nodes, hN.same m24, rfl, hnd, hE, hlt⟩, Mod.of_same m24⟩
  cases more with
  | true =>
    refine kB_at ?_
    refine kIf_T rfl ?_
    have hg1 : blk w19.drew (pn i) = _ := hg0
    have hm1 : Same w2 w19.drew := hm0.drew
    generalize w19.drew = wb at *
    repeat (first | refine kN_at ?_ | refine kB_at ?_ | refine kfld_of ?_ | refine kext_at rfl ?_ | refine kld_at hg1 rfl ?_ | refine kldN_at hg1 rfl (by omega) ?_ | refine kG_of (by first | exact rfl | omega) ?_ | refine klen_at ?_ | refine eql_at ?_ | refine neq_at ?_ | refine lss_at ?_ | refine leq_at ?_ | refine gtr_at ?_ | refine geq_at ?_ | refine add_at (by omega) (by omega) ?_ | refine sub_at (by omega) (by omega) ?_ | refine not_at ?_ | refine kO_at ?_ | refine kprt_at rfl ?_ | refine kprtN_at rfl ?_ | refine kcap_at ?_ | refine klenStr_at ?_ | refine kN_iat ?_ | refine kN_fat ?_ | refine kIf_T (by first | exact rfl | exact decT (by omega) | exact notT (decF (by omega))) ?_ | refine kIf_F (by first | exact rfl | exact decF (by omega) | exact notF (decT (by omega))) ?_)
    refine kcall_of (with_spec (nodes[i]).mask (c : Int) gi5 (by omega) (by omega) wb) ?_
    rintro v w24 ⟨rfl, rfl⟩
    rw [bitF_nat (by omega)]
    exact key w24 hm1
  | false =>
    refine kB_at ?_
    refine kIf_F rfl ?_
    exact key w19 hm0
theorem withAt_spec {o : Lab} {w : World} {b n : Nat} {masks : List Nat} (h : AtlasAt o w b n masks) (i : Nat) (hi : i < masks.length) (c : Nat) (hc : c < n) (hlen : masks.length < 100000) :
    Meets Tryz.prog 83 #[ptrV b, .int .i64 i, .int .i64 c] w fun v w' => v = .tuple #[natV ((addM masks (masks[i] ||| 2 ^ c)).idxOf (masks[i] ||| 2 ^ c)), .nilIface] ∧ ∃ o', LabEq w o o' ∧ AtlasAt o' w' b n (addM masks (masks[i] ||| 2 ^ c)) ∧ Mod (FP o atlasTag) w w' := by
  refine f83_ok ?_
  unfold f83
  refine kcall_of (edge_spec h i hi c hc true hlen) ?_
  rintro v w2 ⟨rfl, h2⟩
  repeat (first | refine kN_at ?_ | refine kB_at ?_ | refine kfld_of ?_ | refine kext_at rfl ?_ | refine kG_of (by first | exact rfl | omega) ?_ | refine klen_at ?_ | refine eql_at ?_ | refine neq_at ?_ | refine lss_at ?_ | refine leq_at ?_ | refine gtr_at ?_ | refine geq_at ?_ | refine add_at (by omega) (by omega) ?_ | refine sub_at (by omega) (by omega) ?_ | refine not_at ?_ | refine kO_at ?_ | refine kprt_at rfl ?_ | refine kprtN_at rfl ?_ | refine kcap_at ?_ | refine klenStr_at ?_ | refine kN_iat ?_ | refine kN_fat ?_ | refine kIf_T (by first | exact rfl | exact decT (by omega) | exact notT (decF (by omega))) ?_ | refine kIf_F (by first | exact rfl | exact decF (by omega) | exact notF (decT (by omega))) ?_)
  exact ⟨rfl, h2⟩
theorem withoutAt_spec {o : Lab} {w : World} {b n : Nat} {masks : List Nat} (h : AtlasAt o w b n masks) (i : Nat) (hi : i < masks.length) (c : Nat) (hc : c < n) (hlen : masks.length < 100000) :
    Meets Tryz.prog 92 #[ptrV b, .int .i64 i, .int .i64 c] w fun v w' => v = .tuple #[natV ((addM masks (andN masks[i] (2 ^ c))).idxOf (andN masks[i] (2 ^ c))), .nilIface] ∧ ∃ o', LabEq w o o' ∧ AtlasAt o' w' b n (addM masks (andN masks[i] (2 ^ c))) ∧ Mod (FP o atlasTag) w w' := by
  refine f92_ok ?_
  unfold f92
  refine kcall_of (edge_spec h i hi c hc false hlen) ?_
  rintro v w2 ⟨rfl, h2⟩
  repeat (first | refine kN_at ?_ | refine kB_at ?_ | refine kfld_of ?_ | refine kext_at rfl ?_ | refine kG_of (by first | exact rfl | omega) ?_ | refine klen_at ?_ | refine eql_at ?_ | refine neq_at ?_ | refine lss_at ?_ | refine leq_at ?_ | refine gtr_at ?_ | refine geq_at ?_ | refine add_at (by omega) (by omega) ?_ | refine sub_at (by omega) (by omega) ?_ | refine not_at ?_ | refine kO_at ?_ | refine kprt_at rfl ?_ | refine kprtN_at rfl ?_ | refine kcap_at ?_ | refine klenStr_at ?_ | refine kN_iat ?_ | refine kN_fat ?_ | refine kIf_T (by first | exact rfl | exact decT (by omega) | exact notT (decF (by omega))) ?_ | refine kIf_F (by first | exact rfl | exact decF (by omega) | exact notF (decT (by omega))) ?_)
  exact ⟨rfl, h2⟩
end Go.Proofs.YtlkpadfkmdgjcaaGreatDoor
end
section
set_option linter.unusedSimpArgs false
set_option linter.unusedVariables false
namespace Go.Proofs.YtlkpadfkmdgjcaaGreatDoor
open Go Go.Ev
set_option linter.unusedVariables false
set_option linter.unusedSimpArgs false
set_option maxRecDepth 100000
attribute [local irreducible] kO kB kStr kInt kN kG kIf kfld kld kldN kst knew kmap kbld kbldS kext kcnv klenStr klen kcap kprt kprtN kbool kint kstr keq kun ksl kix kiv kta kmk kmm ksem ksemU kextf kcallV kcallM kcall kL

def matchP (wi wo m : Nat) : Bool := decide (andN wi m = 0) && decide (m &&& wo = 0)
def matchL (wi wo : Nat) (masks : List Nat) : List Nat := (masks.zipIdx.filter fun x => matchP wi wo x.1).map (·.2)
theorem matchL_snoc (wi wo : Nat) (masks : List Nat) (i : Nat) (h : i < masks.length) : matchL wi wo (masks.take (i + 1)) = if matchP wi wo masks[i] = true then matchL wi wo (masks.take i) ++ [i] else matchL wi wo (masks.take i) := by
  unfold matchL
  rw [List.take_add_one, List.getElem?_eq_getElem h, List.zipIdx_append]
  have hl : (masks.take i).length = i := by rw [List.length_take]; omega
  by_cases hc : matchP wi wo masks[i] = true
  · simp [hc, hl]
  · simp [hc]
theorem matchL_len (wi wo : Nat) (masks : List Nat) : (matchL wi wo masks).length ≤ masks.length := by
  unfold matchL
  rw [List.length_map]
  have := List.length_filter_le (fun x : Nat × Nat => matchP wi wo x.1) masks.zipIdx
  simpa using this
theorem aMatch_spec {o : Lab} {w : World} {b n : Nat} {masks : List Nat} (h : AtlasAt o w b n masks) (wi wo : Nat) (hwi : wi < 4294967296) (hwo : wo < 4294967296) :
    Meets Tryz.prog 78 #[ptrV b, msk wi, msk wo] w fun v w' => Own w' v 1 ((matchL wi wo masks).map natV) ∧ Same w w' ∧ (∀ k, vblk v k → w.heap.size ≤ k) := by
  obtain ⟨pn, nodes, hN, rfl, hnd, hE, hlt⟩ := h
  obtain ⟨h1, h2, h3, nv, bm, hb, hO, hl, hbm, hM, hNs⟩ := id hN
  obtain ⟨na, nn, nc, rfl, hns, hnn⟩ := hO.is
  have hnn : nn = (List.range nodes.length).length := by simpa using hnn rfl
  subst hnn
  refine f78_ok ?_
  unfold f78
  rw [ptrV, keq_ptr_nil ptAtl]
  repeat (first | refine kN_at ?_ | refine kB_at ?_ | refine kfld_of ?_ | refine kext_at rfl ?_ | refine kld_at hb rfl ?_ | refine kldN_at hb rfl (by omega) ?_ | refine kG_of (by first | exact rfl | omega) ?_ | refine klen_at ?_ | refine eql_at ?_ | refine neq_at ?_ | refine lss_at ?_ | refine leq_at ?_ | refine gtr_at ?_ | refine geq_at ?_ | refine add_at (by omega) (by omega) ?_ | refine sub_at (by omega) (by omega) ?_ | refine not_at ?_ | refine kO_at ?_ | refine kprt_at rfl ?_ | refine kprtN_at rfl ?_ | refine kcap_at ?_ | refine klenStr_at ?_ | refine kN_iat ?_ | refine kN_fat ?_ | refine kIf_T (by first | exact rfl | exact decT (by omega) | exact notT (decF (by omega))) ?_ | refine kIf_F (by first | exact rfl | exact decF (by omega) | exact notF (decT (by omega))) ?_)
  refine kL2_of nodes.length (fun j x y wr => y = .int .i64 j ∧ Own wr x 1 ((matchL wi wo ((nodes.map (·.mask)).take j)).map natV) ∧ Same w wr ∧ (∀ k, vblk x k → w.heap.size ≤ k)) ⟨lI2_0 ⟨rfl, Own.nil _ _, Mod.refl _ _, fun k hk => by obtain ⟨_, _, _, e⟩ := hk; cases e⟩, fun x y wr hx => ?_⟩
  obtain ⟨j, hj, ⟨rfl, hOx, hm, hf⟩, hJ⟩ := lI2_step hx
  unfold f78_1
  refine lss_at ?_
  refine kB_at ?_
  refine kIf_dec (fun hlt2 => ?_) (fun hge => ?_)
  · have hlt2 : j < nodes.length := by simp at hlt2; omega
    have hlen := matchL_len wi wo ((nodes.map (·.mask)).take j)
    rw [List.length_take, List.length_map] at hlen
    obtain ⟨gi1, gi2, gi3, gi4, gi5⟩ := hNs j hlt2
    have hg := hm.get gi2 (fun h => h)
    have hsn := matchL_snoc wi wo (nodes.map (·.mask)) j (by simpa using hlt2)
    have hmj : (nodes.map (·.mask))[j]'(by simpa using hlt2) = (nodes[j]).mask := by simp
    rw [hmj] at hsn
    unfold f78_2
    refine kixld_of (F := fun i => ptrV (pn i)) (hns.same hm) (show j < (List.range nodes.length).length by simpa using hlt2) rfl ?_
    rw [List.getElem_range]
    rw [ptrV]
    repeat (first | refine kN_at ?_ | refine kB_at ?_ | refine kfld_of ?_ | refine kext_at rfl ?_ | refine kld_at hg rfl ?_ | refine kldN_at hg rfl (by omega) ?_ | refine kG_of (by first | exact rfl | omega) ?_ | refine klen_at ?_ | refine eql_at ?_ | refine neq_at ?_ | refine lss_at ?_ | refine leq_at ?_ | refine gtr_at ?_ | refine geq_at ?_ | refine add_at (by omega) (by omega) ?_ | refine sub_at (by omega) (by omega) ?_ | refine not_at ?_ | refine kO_at ?_ | refine kprt_at rfl ?_ | refine kprtN_at rfl ?_ | refine kcap_at ?_ | refine klenStr_at ?_ | refine kN_iat ?_ | refine kN_fat ?_ | refine kIf_T (by first | exact rfl | exact decT (by omega) | exact notT (decF (by omega))) ?_ | refine kIf_F (by first | exact rfl | exact decF (by omega) | exact notF (decT (by omega))) ?_)
    refine kcall_of (within_spec wi (nodes[j]).mask hwi gi5 wr) ?_
    rintro v w13 ⟨rfl, rfl⟩
    refine kB_at ?_
    refine kIf_dec (fun hc1 => ?_) (fun hc1 => ?_)
    · repeat (first | refine kN_at ?_ | refine kB_at ?_ | refine kfld_of ?_ | refine kext_at rfl ?_ | refine kld_at hg rfl ?_ | refine kldN_at hg rfl (by omega) ?_ | refine kG_of (by first | exact rfl | omega) ?_ | refine klen_at ?_ | refine eql_at ?_ | refine neq_at ?_ | refine lss_at ?_ | refine leq_at ?_ | refine gtr_at ?_ | refine geq_at ?_ | refine add_at (by omega) (by omega) ?_ | refine sub_at (by omega) (by omega) ?_ | refine not_at ?_ | refine kO_at ?_ | refine kprt_at rfl ?_ | refine kprtN_at rfl ?_ | refine kcap_at ?_ | refine klenStr_at ?_ | refine kN_iat ?_ | refine kN_fat ?_ | refine kIf_T (by first | exact rfl | exact decT (by omega) | exact notT (decF (by omega))) ?_ | refine kIf_F (by first | exact rfl | exact decF (by omega) | exact notF (decT (by omega))) ?_)
      rw [msk, msk, kint_and, u32_and gi5 hwo]
      refine eql_at ?_
      unfold f78_3
      refine kB_at ?_
      refine kIf_dec (fun hc2 => ?_) (fun hc2 => ?_)
      · have hp : matchP wi wo (nodes[j]).mask = true := by
          unfold matchP
          rw [decT hc1, decT (show (nodes[j]).mask &&& wo = 0 by omega)]; rfl
        refine kbldS_of (cs := [natV j]) rfl fun w5 h5' hs5 hb5 => ?_
        refine ksem_append apInt (by omega) (hOx.same h5') (Src.ofSlIs (hk := slInt_is.choose_spec) 1 (SlIs.blk hb5 rfl) rfl) (by simp; omega) (by simp; omega) ?_
        intro v' w7 ho7 hm7 hf7
        repeat (first | refine kN_at ?_ | refine kB_at ?_ | refine kfld_of ?_ | refine kext_at rfl ?_ | refine kG_of (by first | exact rfl | omega) ?_ | refine klen_at ?_ | refine eql_at ?_ | refine neq_at ?_ | refine lss_at ?_ | refine leq_at ?_ | refine gtr_at ?_ | refine geq_at ?_ | refine add_at (by omega) (by omega) ?_ | refine sub_at (by omega) (by omega) ?_ | refine not_at ?_ | refine kO_at ?_ | refine kprt_at rfl ?_ | refine kprtN_at rfl ?_ | refine kcap_at ?_ | refine klenStr_at ?_ | refine kN_iat ?_ | refine kN_fat ?_ | refine kIf_T (by first | exact rfl | exact decT (by omega) | exact notT (decF (by omega))) ?_ | refine kIf_F (by first | exact rfl | exact decF (by omega) | exact notF (decT (by omega))) ?_)
        rw [cast_succ]
        refine hJ _ _ _ hlt2 ⟨rfl, ?_, Mod.after (hm.trans h5') hm7 hf, fun k hk => ?_⟩
        · rw [hsn, if_pos hp, List.map_append]
          exact ho7
        · rcases hf7 k hk with h | h
          · exact hf k h
          · have := hm.size; have := h5'.size; omega
      · have hp : ¬ matchP wi wo (nodes[j]).mask = true := by
          unfold matchP
          rw [decF (show ¬ (nodes[j]).mask &&& wo = 0 by omega)]; simp
        repeat (first | refine kN_at ?_ | refine kB_at ?_ | refine kfld_of ?_ | refine kext_at rfl ?_ | refine kG_of (by first | exact rfl | omega) ?_ | refine klen_at ?_ | refine eql_at ?_ | refine neq_at ?_ | refine lss_at ?_ | refine leq_at ?_ | refine gtr_at ?_ | refine geq_at ?_ | refine add_at (by omega) (by omega) ?_ | refine sub_at (by omega) (by omega) ?_ | refine not_at ?_ | refine kO_at ?_ | refine kprt_at rfl ?_ | refine kprtN_at rfl ?_ | refine kcap_at ?_ | refine klenStr_at ?_ | refine kN_iat ?_ | refine kN_fat ?_ | refine kIf_T (by first | exact rfl | exact decT (by omega) | exact notT (decF (by omega))) ?_ | refine kIf_F (by first | exact rfl | exact decF (by omega) | exact notF (decT (by omega))) ?_)
        rw [cast_succ]
        refine hJ _ _ _ hlt2 ⟨rfl, ?_, hm, hf⟩
        rw [hsn, if_neg hp]
        exact hOx
    · have hp : ¬ matchP wi wo (nodes[j]).mask = true := by
        unfold matchP
        rw [decF hc1]; simp
      unfold f78_3
      repeat (first | refine kN_at ?_ | refine kB_at ?_ | refine kfld_of ?_ | refine kext_at rfl ?_ | refine kG_of (by first | exact rfl | omega) ?_ | refine klen_at ?_ | refine eql_at ?_ | refine neq_at ?_ | refine lss_at ?_ | refine leq_at ?_ | refine gtr_at ?_ | refine geq_at ?_ | refine add_at (by omega) (by omega) ?_ | refine sub_at (by omega) (by omega) ?_ | refine not_at ?_ | refine kO_at ?_ | refine kprt_at rfl ?_ | refine kprtN_at rfl ?_ | refine kcap_at ?_ | refine klenStr_at ?_ | refine kN_iat ?_ | refine kN_fat ?_ | refine kIf_T (by first | exact rfl | exact decT (by omega) | exact notT (decF (by omega))) ?_ | refine kIf_F (by first | exact rfl | exact decF (by omega) | exact notF (decT (by omega))) ?_)
      rw [cast_succ]
      refine hJ _ _ _ hlt2 ⟨rfl, ?_, hm, hf⟩
      rw [hsn, if_neg hp]
      exact hOx
  · have : j = nodes.length := by simp at hge; omega
    subst this
    have e : (nodes.map (·.mask)).take nodes.length = nodes.map (·.mask) := List.take_of_length_le (by simp)
    rw [e] at hOx
    unfold f78_5
    exact ⟨hOx, hm, hf⟩
end Go.Proofs.YtlkpadfkmdgjcaaGreatDoor
end
