/-
Lemmas for the statements of this seat: no statement of the seat is proved in this part (6 of 6); the conditions stand in each theorem.
-/
import Derived.Test.YtlkpadfkmdgjcaaGreatDoorQuery5
section
set_option linter.unusedSimpArgs false
set_option linter.unusedVariables false
namespace Go.Proofs.YtlkpadfkmdgjcaaGreatDoor
open Go Go.Ev
set_option linter.unusedVariables false
set_option linter.unusedSimpArgs false
set_option maxRecDepth 100000

/-! ### A filter that asks more (plain) -/
theorem and_or0 {a b k : Nat} (h : (a ||| b) &&& k = 0) : a &&& k = 0 := by
  apply Nat.eq_of_testBit_eq
  intro i
  have := congrArg (fun x : Nat => x.testBit i) h
  simp only [Nat.testBit_and, Nat.testBit_or, Nat.zero_testBit] at this ⊢
  cases ha : a.testBit i <;> cases hk : k.testBit i <;> simp_all
theorem and_or0' {a b k : Nat} (h : k &&& (a ||| b) = 0) : k &&& a = 0 := by
  rw [Nat.and_comm] at h ⊢
  exact and_or0 h
theorem matchP_or {a b c d m : Nat} (h : matchP (a ||| b) (c ||| d) m = true) : matchP a c m = true := by
  unfold matchP andN at *
  simp only [Bool.and_eq_true, decide_eq_true_eq] at *
  exact ⟨and_or0 h.1, and_or0' h.2⟩
def filterOr (f g : Filter) : Filter := ⟨f.wth ||| g.wth, f.wout ||| g.wout, f.chg ||| g.chg⟩
theorem filterOr_ok {f g : Filter} (hf : f.ok) (hg : g.ok) : (filterOr f g).ok := ⟨or_lt hf.1 hg.1, or_lt hf.2.1 hg.2.1, or_lt hf.2.2 hg.2.2⟩
theorem chgB_mono {S : SM} {fr fr' : Int} (h : fr ≤ fr') {c : Nat} {e : EK} (hc : chgB S fr' c e = true) : chgB S fr c e = true := by
  unfold chgB at *
  simp only [Bool.and_eq_true, decide_eq_true_eq, List.any_eq_true] at *
  obtain ⟨h0, h1, q, hq, h2, h3⟩ := hc
  exact ⟨h0, h1, q, hq, h2, by omega⟩
theorem cnt_all {S : SM} {fr : Int} {l : List Nat} {e : EK} : cntE S fr l e = l.length ↔ ∀ c ∈ l, chgB S fr c e = true := by
  unfold cntE
  rw [List.length_filter_eq_length_iff]
theorem listF_ne {m : Nat} (hm : m < 4294967296) (h : m ≠ 0) : (listF m).length ≠ 0 := by
  intro h0
  apply h
  apply Nat.eq_of_testBit_eq
  intro i
  rw [Nat.zero_testBit]
  by_cases hi : i < 32
  · cases hb : m.testBit i with
    | false => rfl
    | true =>
      have : i ∈ listF m := listF_mem.2 ⟨hi, hb⟩
      rw [List.eq_nil_of_length_eq_zero h0] at this
      cases this
  · exact Nat.testBit_lt_two_pow (Nat.lt_of_lt_of_le (show m < 2 ^ 32 by omega) (Nat.pow_le_pow_right (by omega) (by omega)))
theorem late_all {S : SM} {f : Filter} (hf : f.ok) {frame : Int} {e : EK} (h0 : f.chg ≠ 0) : lateB S f frame e = true ↔ ∀ c ∈ listF f.chg, chgB S (sinceF frame) c e = true := by
  unfold lateB
  rw [decide_eq_true_eq, ← cnt_all]
  have := listF_ne hf.2.2 h0
  constructor
  · exact fun h => h.2
  · exact fun h => ⟨by omega, h⟩
theorem meanB_or {S : SM} {f g : Filter} (hf : f.ok) (hg : g.ok) {fr fr' : Int} (hfr : fr ≤ fr') {e : EK} (h : meanB S (filterOr f g) fr' e = true) : meanB S f fr e = true := by
  unfold meanB at *
  simp only [Bool.and_eq_true, Bool.or_eq_true, decide_eq_true_eq] at *
  obtain ⟨h1, h2, h3⟩ := h
  refine ⟨h1, matchP_or h2, ?_⟩
  by_cases h0 : f.chg = 0
  · exact .inl h0
  · right
    have hc : (filterOr f g).chg ≠ 0 := fun h => h0 (by
      have h : f.chg ||| g.chg = 0 := h
      apply Nat.eq_of_testBit_eq
      intro i
      have := congrArg (fun x : Nat => x.testBit i) h
      simp only [Nat.testBit_or, Nat.zero_testBit] at this ⊢
      cases ha : f.chg.testBit i <;> simp_all)
    rcases h3 with h3 | h3
    · exact absurd h3 hc
    · rw [late_all (filterOr_ok hf hg) hc] at h3
      rw [late_all hf h0]
      intro c hcm
      have hs : sinceF fr ≤ sinceF fr' := by unfold sinceF; omega
      refine chgB_mono hs (h3 c (listF_mem.2 ?_))
      have := listF_mem.1 hcm
      refine ⟨this.1, ?_⟩
      show (f.chg ||| g.chg).testBit c = true
      rw [Nat.testBit_or, this.2]; rfl
theorem run_sub {S : SM} {E : List EK} {f g : Filter} (hf : f.ok) (hg : g.ok) {fr fr' : Int} (hfr : fr ≤ fr') : ∀ x ∈ runL S E (filterOr f g) fr', x ∈ runL S E f fr := by
  intro x hx
  obtain ⟨k, hk, rfl⟩ := List.mem_map.1 hx
  obtain ⟨h1, h2⟩ := List.mem_filter.1 hk
  refine List.mem_map.2 ⟨k, List.mem_filter.2 ⟨h1, ?_⟩, rfl⟩
  have hlt : k < E.length := by simpa using h1
  rw [List.getElem?_eq_getElem hlt] at h2 ⊢
  exact meanB_or hf hg hfr h2
def filter0 : Filter := ⟨0, 0, 0⟩
theorem run_all {S : SM} {E : List EK} (h : ∀ e ∈ E, liveB S e = true) (fr : Int) : (runL S E filter0 fr).length = E.length := by
  unfold runL
  rw [List.length_map, List.filter_eq_self.2 fun k hk => ?_, List.length_range]
  have hlt : k < E.length := by simpa using hk
  rw [List.getElem?_eq_getElem hlt]
  simp [meanB, filter0, matchP, andN, h _ (List.getElem_mem hlt)]
theorem runL_len (S : SM) (E : List EK) (f : Filter) (fr : Int) : (runL S E f fr).length ≤ E.length := by
  unfold runL
  rw [List.length_map]
  have := List.length_filter_le (fun k => (E[k]?).any (meanB S f fr)) (List.range E.length)
  simpa using this
/-- Where in the wide one each of the tight one stands: rising. -/
theorem rise_at {T W : List Int} (hT : T.Pairwise (fun x y => x < y)) (hW : W.Pairwise (fun x y => x < y)) (hsub : ∀ x ∈ T, x ∈ W) : ∃ pos : Nat → Nat, (∀ i (hi : i < T.length), ∃ h : pos i < W.length, W[pos i] = T[i]) ∧ ∀ i j, i < j → j < T.length → pos i < pos j := by
  refine ⟨fun i => W.idxOf ((T[i]?).getD 0), fun i hi => ?_, fun i j hij hj => ?_⟩
  · simp only [List.getElem?_eq_getElem hi, Option.getD_some]
    have := hsub _ (List.getElem_mem hi)
    exact ⟨List.idxOf_lt_length_of_mem this, List.getElem_idxOf _⟩
  · have hi : i < T.length := by omega
    simp only [List.getElem?_eq_getElem hi, List.getElem?_eq_getElem hj, Option.getD_some]
    have h1 := List.idxOf_lt_length_of_mem (hsub _ (List.getElem_mem hi))
    have h2 := List.idxOf_lt_length_of_mem (hsub _ (List.getElem_mem hj))
    have e1 := List.getElem_idxOf h1
    have e2 := List.getElem_idxOf h2
    have hlt := (List.pairwise_iff_getElem.1 hT) i j hi hj hij
    rcases Nat.lt_trichotomy (W.idxOf T[i]) (W.idxOf T[j]) with h | h | h
    · exact h
    · exfalso
      have : T[i] = T[j] := by rw [← e1, ← e2]; simp only [h]
      omega
    · have := (List.pairwise_iff_getElem.1 hW) _ _ h2 h1 h
      rw [e1, e2] at this
      omega
theorem liveL {w0 : World} {bs : List Being} {n b bb : Nat} {o : Lab} {p : Ptrs} {S : SM} {w : World} (q : LaidQ w0 bs n b bb o p S w) (hn : n ≤ 60) : ∀ e ∈ eL bs n, liveB S e = true := by
  intro e he
  obtain ⟨i, hi, rfl⟩ := List.mem_map.1 he
  have hi : i < n := by simpa using (List.mem_filter.1 hi).1
  unfold liveB
  rw [ekOf_i (by omega), ekOf_g, Int.toNat_natCast, q.gn i, if_pos hi]
  simp
end Go.Proofs.YtlkpadfkmdgjcaaGreatDoor
end
section
set_option linter.unusedSimpArgs false
set_option linter.unusedVariables false
namespace Go.Proofs.YtlkpadfkmdgjcaaGreatDoor
open Go Go.Ev
set_option linter.unusedVariables false
set_option linter.unusedSimpArgs false
set_option maxRecDepth 100000
attribute [local irreducible] kO kB kStr kInt kN kG kIf kfld kld kldN kst knew kmap kbld kbldS kext kcnv klenStr klen kcap kprt kprtN kbool kint kstr keq kun ksl kix kiv kta kmk kmm ksem ksemU kextf kcallV kcallM kcall kL

/-! ### QueryNarrows, walked -/
theorem LaidQ.same {w0 : World} {bs : List Being} {n b bb : Nat} {o : Lab} {p : Ptrs} {S : SM} {w w' : World} (q : LaidQ w0 bs n b bb o p S w) (m : Same w w') : LaidQ w0 bs n b bb o p S w' := ⟨q.C.loc m, q.cs, q.tm, q.fr, q.gn, q.pt, q.bd.same m⟩
theorem runQ {w0 : World} (hD : DeAt w0) {bs : List Being} {n b bb : Nat} {o : Lab} {p : Ptrs} {S : SM} {w : World} (q : LaidQ w0 bs n b bb o p S w) (hn : n ≤ 60) (f : Filter) (hf : f.ok) {frame : Int} (hfr : I64 frame) :
    Meets Tryz.prog 55 #[.pointer (some ⟨b, 0, none⟩), .pointer (some ⟨bb, 0, none⟩), f.val, .int .i64 frame] w fun v w' => ∃ a c, v = .slice a (runL S (eL bs n) f frame).length c ∧ SlIs w' a (runL S (eL bs n) f frame).length 1 ((runL S (eL bs n) f frame).map nV) ∧ Same w w' := by
  refine (run_spec (hD.same q.C.same) q.C.sp q.C.gs (by omega) q.tm q.bd f hf hfr).mono ?_
  rintro v w' ⟨hO, hm, _⟩
  obtain ⟨a, k, c, rfl, hs, hk⟩ := hO.is
  have hk : k = (runL S (eL bs n) f frame).length := by simpa using hk rfl
  subst hk
  exact ⟨a, c, rfl, hs, hm⟩
theorem narrows_loop {w : World} {T W : List Int} (hT : T.Pairwise (fun x y => x < y)) (hW : W.Pairwise (fun x y => x < y)) (hsub : ∀ x ∈ T, x ∈ W) (hTl : T.length ≤ 64) (hWl : W.length ≤ 64) {ta wa : Option Addr} {tc wc : Nat} (hts : SlIs w ta T.length 1 (T.map nV)) (hws : SlIs w wa W.length 1 (W.map nV)) (x9 x10 : Value) {Q : Value → World → Prop}
    (hQ : ∀ w', Same w w' → f8_10 x9 x10 Q w') :
    kL fun (I : Value → Value → World → Prop) (μ : Value → Value → World → Nat) => I (.int .i64 0) (.int .i64 0) w ∧ ∀ (x14 x15 : Value) (w1 : World), I x14 x15 w1 →
      f8_2 x14 x15 x9 x10 (.slice wa W.length wc) (.slice ta T.length tc) (fun y14 y15 w2 => I y14 y15 w2 ∧ μ y14 y15 w2 < μ x14 x15 w1) Q w1 := by
  obtain ⟨pos, hpos, hmono⟩ := rise_at hT hW hsub
  refine kL2_of T.length (fun j x y wr => y = .int .i64 j ∧ Same w wr ∧ ∃ at_ : Nat, x = .int .i64 at_ ∧ at_ ≤ W.length ∧ ∀ k, j ≤ k → k < T.length → at_ ≤ pos k) ⟨lI2_0 ⟨rfl, Mod.refl _ _, 0, rfl, by omega, fun k _ _ => by omega⟩, fun x y wr hx => ?_⟩
  obtain ⟨j, hj, ⟨rfl, hmr, at_, rfl, hat, hle⟩, hJ⟩ := lI2_step hx
  unfold f8_2
  refine klen_at ?_
  refine lss_at ?_
  refine kB_at ?_
  refine kIf_dec (fun hlt => ?_) (fun hge => hQ wr hmr)
  have hlt : j < T.length := by omega
  obtain ⟨hpl, hpe⟩ := hpos j hlt
  have hp0 := hle j (Nat.le_refl _) hlt
  unfold f8_3
  refine kL1_of W.length (fun r x w1 => ∃ a1 : Nat, x = .int .i64 a1 ∧ at_ + r = a1 ∧ a1 ≤ pos j ∧ Same wr w1) ⟨lI1_0 ⟨at_, rfl, rfl, hp0, Mod.refl _ _⟩, fun x w1 hx1 => ?_⟩
  obtain ⟨r, hr, ⟨a1, rfl, ha1, hap, hm1⟩, hJ1⟩ := lI1_step hx1
  have hts1 := hts.same (hmr.trans hm1)
  have hws1 := hws.same (hmr.trans hm1)
  have md : Same w1 w1.drew := (Mod.refl (fun _ => False) _).drew
  unfold f8_4
  refine klen_at ?_
  refine lss_at ?_
  rw [decT (by omega)]
  refine kB_at ?_
  refine kIf_T rfl ?_
  refine kixld_of (F := nV) (l := W) hws1 (show a1 < W.length by omega) rfl ?_
  refine kG_of rfl ?_
  refine kixld_of (F := nV) (l := T) hts1 hlt rfl ?_
  refine kG_of rfl ?_
  rw [nV, nV]
  refine neq_at ?_
  by_cases hae : a1 = pos j
  · subst hae
    rw [hpe, decF (by simp)]
    unfold f8_5
    refine kB_at ?_
    refine kIf_F rfl ?_
    unfold f8_7
    refine klen_at ?_
    refine geq_at ?_
    rw [decF (by omega)]
    refine kB_at ?_
    refine kIf_T rfl ?_
    refine gtr_at ?_
    refine kB_at ?_
    have fin : ∀ w3, Same w1 w3 → f8_8 x9 x10 (.slice wa W.length wc) (.slice ta T.length tc) (.int .i64 ((pos j : Nat) : Int)) (.int .i64 j) (.bool false) (fun y14 y15 w2 => lI T.length (inv2 fun j x y wr => y = .int .i64 j ∧ Same w wr ∧ ∃ at_ : Nat, x = .int .i64 at_ ∧ at_ ≤ W.length ∧ ∀ k, j ≤ k → k < T.length → at_ ≤ pos k) (y14, y15, w2) ∧ lM T.length (inv2 fun j x y wr => y = .int .i64 j ∧ Same w wr ∧ ∃ at_ : Nat, x = .int .i64 at_ ∧ at_ ≤ W.length ∧ ∀ k, j ≤ k → k < T.length → at_ ≤ pos k) (y14, y15, w2) < lM T.length (inv2 fun j x y wr => y = .int .i64 j ∧ Same w wr ∧ ∃ at_ : Nat, x = .int .i64 at_ ∧ at_ ≤ W.length ∧ ∀ k, j ≤ k → k < T.length → at_ ≤ pos k) (.int .i64 at_, .int .i64 j, wr)) Q w3 := by
      intro w3 hm3
      unfold f8_8
      refine kB_at ?_
      refine kIf_F rfl ?_
      unfold f8_9
      repeat (first | refine kN_at ?_ | refine kB_at ?_ | refine kfld_of ?_ | refine kext_at rfl ?_ | refine kG_of (by first | exact rfl | omega) ?_ | refine klen_at ?_ | refine eql_at ?_ | refine neq_at ?_ | refine lss_at ?_ | refine leq_at ?_ | refine gtr_at ?_ | refine geq_at ?_ | refine add_at (by omega) (by omega) ?_ | refine sub_at (by omega) (by omega) ?_ | refine not_at ?_ | refine kO_at ?_ | refine kprt_at rfl ?_ | refine kprtN_at rfl ?_ | refine kcap_at ?_ | refine klenStr_at ?_ | refine kN_iat ?_ | refine kN_fat ?_ | refine kIf_T (by first | exact rfl | exact decT (by omega) | exact notT (decF (by omega))) ?_ | refine kIf_F (by first | exact rfl | exact decF (by omega) | exact notF (decT (by omega))) ?_)
      rw [cast_succ]
      refine hJ _ _ _ hlt ⟨rfl, (hmr.trans hm1).trans hm3, pos j, rfl, by omega, fun k hk1 hk2 => ?_⟩
      have := hmono j k (by omega) hk2
      omega
    refine kIf_dec (fun hj0 => ?_) (fun hj0 => fin _ (md.trans (Mod.refl (fun _ => False) _).drew))
    refine sub_at (by omega) (by omega) ?_
    rw [show (j : Int) - 1 = ((j - 1 : Nat) : Int) by omega]
    refine kixld_of (F := nV) (l := T) (hts1.same md) (show j - 1 < T.length by omega) rfl ?_
    refine kG_of rfl ?_
    refine kixld_of (F := nV) (l := T) (hts1.same md) hlt rfl ?_
    refine kG_of rfl ?_
    rw [nV, nV]
    refine geq_at ?_
    have hlt2 := (List.pairwise_iff_getElem.1 hT) (j - 1) j (by omega) hlt (by omega)
    rw [decF (by omega)]
    exact fin _ (md.trans (Mod.refl (fun _ => False) _).drew)
  · have hne : W[a1]'(by omega) ≠ T[j] := fun e => by
      rw [← hpe] at e
      have h1 : a1 < pos j := by omega
      have := (List.pairwise_iff_getElem.1 hW) a1 (pos j) (by omega) hpl h1
      omega
    rw [decT hne]
    unfold f8_5
    refine kB_at ?_
    refine kIf_T rfl ?_
    unfold f8_6
    repeat (first | refine kN_at ?_ | refine kB_at ?_ | refine kfld_of ?_ | refine kext_at rfl ?_ | refine kG_of (by first | exact rfl | omega) ?_ | refine klen_at ?_ | refine eql_at ?_ | refine neq_at ?_ | refine lss_at ?_ | refine leq_at ?_ | refine gtr_at ?_ | refine geq_at ?_ | refine add_at (by omega) (by omega) ?_ | refine sub_at (by omega) (by omega) ?_ | refine not_at ?_ | refine kO_at ?_ | refine kprt_at rfl ?_ | refine kprtN_at rfl ?_ | refine kcap_at ?_ | refine klenStr_at ?_ | refine kN_iat ?_ | refine kN_fat ?_ | refine kIf_T (by first | exact rfl | exact decT (by omega) | exact notT (decF (by omega))) ?_ | refine kIf_F (by first | exact rfl | exact decF (by omega) | exact notF (decT (by omega))) ?_)
    rw [cast_succ]
    exact hJ1 _ _ (by omega) ⟨a1 + 1, rfl, by omega, by omega, hm1.trans md⟩
end Go.Proofs.YtlkpadfkmdgjcaaGreatDoor
end
section
set_option linter.unusedSimpArgs false
set_option linter.unusedVariables false
namespace Go.Proofs.YtlkpadfkmdgjcaaGreatDoor
open Go Go.Ev
set_option linter.unusedVariables false
set_option linter.unusedSimpArgs false
set_option maxRecDepth 100000
attribute [local irreducible] kO kB kStr kInt kN kG kIf kfld kld kldN kst knew kmap kbld kbldS kext kcnv klenStr klen kcap kprt kprtN kbool kint kstr keq kun ksl kix kiv kta kmk kmm ksem ksemU kextf kcallV kcallM kcall kL

theorem narrows_spec {Sa : Nat → Addr} {w : World} (hL : LaidE Sa w) (hD : DeAt w) {a : Option Addr} {bs : List Being} {c : Nat} (hs : SlIs w a bs.length 10 (bs.flatMap beC)) (hok : ∀ x ∈ bs, x.ok) (f g : Filter) (hf : f.ok) (hg : g.ok) {fr0 fr1 : Int} (h0 : I64 fr0) (h1 : I64 fr1) :
    Meets Tryz.prog 8 #[.slice a bs.length c, f.val, g.val, .agg #[.int .i64 fr0, .int .i64 fr1]] w fun v w' => v = .bool true ∧ Same w w' := by
  have hmin : I64 (min fr0 fr1) := by unfold I64 at *; omega
  have hmax : I64 (max fr0 fr1) := by unfold I64 at *; omega
  have hmm : min fr0 fr1 ≤ max fr0 fr1 := by omega
  refine f8_ok ?_
  unfold f8
  refine knew_of fun w2 h2 hs2 hb2 => ?_
  have hb2 : blk w2 w.heap.size = some (.cells #[msk f.wth, msk f.wout, msk f.chg] 100) := hb2
  refine knew_of fun w4 h4 hs4 hb4 => ?_
  have hb4 : blk w4 w2.heap.size = some (.cells #[msk g.wth, msk g.wout, msk g.chg] 100) := hb4
  refine knew_of fun w6 h6 hs6 hb6 => ?_
  have hb6 : blk w6 w4.heap.size = some (.cells #[.int .i64 fr0, .int .i64 fr1] 101) := hb6
  have m6 := (h2.trans h4).trans h6
  refine kcall_of (awake11_spec (hL.same m6)) ?_
  rintro v w8 ⟨rfl, h8⟩
  refine not_at ?_
  refine kB_at ?_
  refine kIf_F rfl ?_
  unfold f8_0
  have m8 := m6.trans h8
  have hf8 := ((h4.trans h6).trans h8).get hb2 (fun h => h)
  have hg8 := (h6.trans h8).get hb4 (fun h => h)
  have hr8 := h8.get hb6 (fun h => h)
  refine kcall_of (laid_spec (hD.same m8) (hs.same m8) hok) ?_
  rintro v w11 ⟨b, bb, o, p, S, rfl, q⟩
  have hn : min bs.length 60 ≤ 60 := by omega
  generalize min bs.length 60 = n at *
  have m11 := q.C.same
  have hf11 := m11.get hf8 (fun h => h)
  have hg11 := m11.get hg8 (fun h => h)
  have hr11 := m11.get hr8 (fun h => h)
  repeat (first | refine kN_at ?_ | refine kB_at ?_ | refine kfld_of ?_ | refine kext_at rfl ?_ | refine kG_of (by first | exact rfl | omega) ?_ | refine klen_at ?_ | refine eql_at ?_ | refine neq_at ?_ | refine lss_at ?_ | refine leq_at ?_ | refine gtr_at ?_ | refine geq_at ?_ | refine add_at (by omega) (by omega) ?_ | refine sub_at (by omega) (by omega) ?_ | refine not_at ?_ | refine kO_at ?_ | refine kprt_at rfl ?_ | refine kprtN_at rfl ?_ | refine kcap_at ?_ | refine klenStr_at ?_ | refine kN_iat ?_ | refine kN_fat ?_ | refine kIf_T (by first | exact rfl | exact decT (by omega) | exact notT (decF (by omega))) ?_ | refine kIf_F (by first | exact rfl | exact decF (by omega) | exact notF (decT (by omega))) ?_)
  rw [keq_ptr_nil ptSto]
  refine kB_at ?_
  refine kIf_F rfl ?_
  unfold f8_1
  refine kfld_of ?_
  refine kld_of (v := msk f.wth) hf11 rfl ?_
  refine kfld_of ?_
  refine kld_of (v := msk g.wth) hg11 rfl ?_
  rw [msk, msk, kint_or, u32_or hf.1 hg.1]
  refine kfld_of ?_
  refine kld_of (v := msk f.wout) hf11 rfl ?_
  refine kfld_of ?_
  refine kld_of (v := msk g.wout) hg11 rfl ?_
  rw [msk, msk, kint_or, u32_or hf.2.1 hg.2.1]
  refine kfld_of ?_
  refine kld_of (v := msk f.chg) hf11 rfl ?_
  refine kfld_of ?_
  refine kld_of (v := msk g.chg) hg11 rfl ?_
  rw [msk, msk, kint_or, u32_or hf.2.2 hg.2.2]
  refine kbld_of (cs := [msk (f.wth ||| g.wth), msk (f.wout ||| g.wout), msk (f.chg ||| g.chg)]) rfl ?_
  refine knew_of fun w33 h33 hs33 hb33 => ?_
  refine kst_of (vs := [msk (f.wth ||| g.wth), msk (f.wout ||| g.wout), msk (f.chg ||| g.chg)]) hb33 rfl rfl rfl (by simp) (by simp) fun w34 h34 hs34 hb34 => ?_
  have hh34 : blk w34 w11.heap.size = some (.cells #[msk (f.wth ||| g.wth), msk (f.wout ||| g.wout), msk (f.chg ||| g.chg)] 100) := hb34
  have m34 : Same w11 w34 := h33.trans' (h34.mono fun k _ e => .inr (by omega))
  have hf34 := m34.get hf11 (fun h => h)
  have hr34 := m34.get hr11 (fun h => h)
  have q34 := q.same m34
  refine kldN_at (cs := [msk f.wth, msk f.wout, msk f.chg]) hf34 rfl (by omega) ?_
  rw [kix_array]
  refine kG_of (by decide) ?_
  rw [add_mk]
  refine kld_of (v := .int .i64 fr0) hr34 rfl ?_
  rw [kix_array]
  refine kG_of (by decide) ?_
  rw [add_mk]
  refine kld_of (v := .int .i64 fr1) hr34 rfl ?_
  rw [kmm_min]
  refine kcall_of (runQ (hD.same m8) q34 hn f hf hmin) ?_
  rintro v w43 ⟨wa, wc, rfl, hws, h43⟩
  have hh43 := h43.get hh34 (fun h => h)
  have hr43 := h43.get hr34 (fun h => h)
  have q43 := q34.same h43
  refine kldN_at (cs := [msk (f.wth ||| g.wth), msk (f.wout ||| g.wout), msk (f.chg ||| g.chg)]) hh43 rfl (by omega) ?_
  rw [kix_array]
  refine kG_of (by decide) ?_
  rw [add_mk]
  refine kld_of (v := .int .i64 fr0) hr43 rfl ?_
  rw [kix_array]
  refine kG_of (by decide) ?_
  rw [add_mk]
  refine kld_of (v := .int .i64 fr1) hr43 rfl ?_
  rw [kmm_max]
  refine kcall_of (runQ (hD.same m8) q43 hn (filterOr f g) (filterOr_ok hf hg) hmax) ?_
  rintro v w52 ⟨ta, tc, rfl, hts, h52⟩
  have q52 := q43.same h52
  have hel := eL_len bs n
  have hl1 := runL_len S (eL bs n) f (min fr0 fr1)
  have hl2 := runL_len S (eL bs n) (filterOr f g) (max fr0 fr1)
  refine narrows_loop (runL_sorted S (eL bs n) (filterOr f g) (max fr0 fr1)) (runL_sorted S (eL bs n) f (min fr0 fr1)) (run_sub hf hg hmm) (by omega) (by omega) hts (hws.same h52) _ _ fun w' hw' => ?_
  have q' := q52.same hw'
  unfold f8_10
  refine kbld_of (cs := [msk 0, msk 0, msk 0]) rfl ?_
  refine kcall_of (runQ (hD.same m8) q' hn filter0 ⟨by decide, by decide, by decide⟩ (frame := 0) (by unfold I64; omega)) ?_
  rintro v w83 ⟨za, zc, rfl, hzs, h83⟩
  refine klen_at ?_
  refine kcall_of (badgeLen_spec (q'.same h83).bd) ?_
  rintro v w87 ⟨rfl, h87⟩
  rw [natV]
  refine eql_at ?_
  rw [run_all (liveL q' hn)]
  exact ⟨by simp, m8.trans ((q'.C.same.trans h83).trans h87)⟩
end Go.Proofs.YtlkpadfkmdgjcaaGreatDoor
end
section
set_option linter.unusedSimpArgs false
set_option linter.unusedVariables false
namespace Go.Proofs.YtlkpadfkmdgjcaaGreatDoor
open Go Go.Ev Go.RowKit Go.ChangeShapes Go.WideShapes Go.ChangeAt
set_option linter.unusedVariables false
set_option maxRecDepth 100000
namespace ST
/-- The door's own heap meets the condition. -/
theorem door_met (os : Os) (args : Array Value) : laidMetH Tryz.prog Rows.queryNarrowsRow.laid ((World.doorLaid Tryz.prog 366 os).forCall (fun _ _ => 0) ⟨#[], args, []⟩).memory :=
  laidMetH_of_parts3 (fuel := 8) (laidMet_of_run' 8 (by kernel_rfl) (by kernel_rfl)) (by kernel_rfl) (by kernel_rfl)
theorem lifted (os : Os) (started : os.Started) (H : Type) (enc : TypeId × Value → H) :
    ReturnsInHanded {} Tryz.checked os 8 .any (fun w args => (Rows.queryNarrowsSpec.pre enc Tryz.prog Tryz.f8 [] false w args ∧ laidMetH Tryz.prog Rows.queryNarrowsRow.laid w) ∧ sizedMet enc Tryz.prog Tryz.f8 (OpenSpec.ofChange Rows.queryNarrowsSpec) false w args)
      (Rows.queryNarrowsSpec.post enc Tryz.prog Tryz.f8 false true false false) := by
  refine returnsInHanded_of_change_and (C := Tryz.checked) (X := fun w _ => laidMetH Tryz.prog Rows.queryNarrowsRow.laid w) (fun _ _ _ hh h => h.of_heap hh) own started (by kernel_rfl) Tryz.func8
    (ChangeSpec.witness_shaped (enc := enc) (C := Tryz.checked) (os := os) (X := fun w _ => laidMetH Tryz.prog Rows.queryNarrowsRow.laid w) false (World.doorLaid Tryz.prog 366 os) #[.slice none 0 0, .agg #[.int .u32 0, .int .u32 0, .int .u32 0], .agg #[.int .u32 0, .int .u32 0, .int .u32 0], .agg #[.int .i64 0, .int .i64 0]] 8 rfl (World.shaped_of_RefB (by kernel_rfl) (by kernel_rfl)) (by kernel_rfl) (by kernel_rfl) (by kernel_rfl) (door_met os _)) ?_
  intro W base args ds gs before hval0 hW _ _ hL _
  have hval : ∀ (j : Nat) t v, Tryz.f8.params[j]? = some t → args[j]? = some v → Value.okWide Tryz.prog W .any base t v := hval0
  have hW' := hW
  obtain ⟨p, q, hA0, hV, rfl, hfz, hnd⟩ := hW
  have hA : DataW.TrodAll enc Tryz.prog W 0 (fun _ => true) true Tryz.f8.params.toList args.toList ds p := hA0
  rw [Tryz.params8] at hA hval
  obtain ⟨v0, vs0, d0, ds0, p0, q0, hargs, rfl, rfl, h0, r0⟩ := trodAll_cons hA
  obtain ⟨v1, vs1, d1, ds1, p1, q1, rfl, rfl, rfl, h1, r1⟩ := trodAll_cons r0
  obtain ⟨v2, vs2, d2, ds2, p2, q2, rfl, rfl, rfl, h2, r2⟩ := trodAll_cons r1
  obtain ⟨v3, vs3, d3, ds3, p3, q3, rfl, rfl, rfl, h3, r3⟩ := trodAll_cons r2
  obtain ⟨rfl, rfl, rfl⟩ := trodAll_nil r3
  obtain rfl : args = #[v0, v1, v2, v3] := by cases args; simp_all
  obtain ⟨rfl, rfl⟩ := trodVars_none hV
  have hlt : ∀ x ∈ p0 ++ (p1 ++ (p2 ++ (p3 ++ []))) ++ [], x.block < W.heap.size := fun x hx => hW'.lt x hx
  obtain ⟨a3, n3, c3', e3⟩ := okWide_slice Tryz.underlying98 (hval 0 98 v0 rfl rfl)
  obtain ⟨sa, l, cp, ep, hl, hsp⟩ := bes_of (rd_of_Trod h0 9)
  obtain rfl : v0 = .slice sa l.length cp := by
    subst e3
    simpa [Value.cells] using ep
  obtain ⟨cs1, e1, _⟩ := okWide_struct Tryz.underlying100 (hval 1 100 v1 rfl rfl)
  obtain ⟨cs2, e2, _⟩ := okWide_struct Tryz.underlying100 (hval 2 100 v2 rfl rfl)
  obtain ⟨cs3, e4⟩ : ∃ cs3, v3 = .agg cs3 := by
    have h := hval 3 101 v3 rfl rfl
    simp only [Value.okWide, Tryz.underlying101] at h
    obtain ⟨cs, e, _⟩ := h
    exact ⟨cs, e⟩
  obtain ⟨f, hf, ef⟩ := filter_of (rd_of_Trod h1 2)
  obtain ⟨g, hg, eg⟩ := filter_of (rd_of_Trod h2 2)
  obtain ⟨x, y, hx, hy, exy⟩ := two_of (rd_of_Trod h3 2)
  obtain rfl : v1 = f.val := agg_of e1 ef
  obtain rfl : v2 = g.val := agg_of e2 eg
  obtain rfl : v3 = .agg #[.int .i64 x, .int .i64 y] := agg_of e4 exy.symm
  obtain ⟨⟨S, hS⟩, hD⟩ := laid_of hL
  refine (narrows_spec hS hD (c := cp) hsp hl f g hf hg hx hy).2.mono fun e W' he => ?_
  obtain ⟨v, rfl, rfl, hsame⟩ := he
  have bel := hsame.below
  exact ⟨_, rfl, _, _, _, [], _, [], hW', trodAll_mk1 (shut_bool Tryz.underlying4 _),
    trodAll_cons_mk (Below.trod laidOut (by kernel_rfl) (of_decide_eq_true (by kernel_rfl)) h0 bel fun x hx => hlt x (by simp [hx]))
      (trodAll_cons_mk (Below.trod laidOut (by kernel_rfl) (of_decide_eq_true (by kernel_rfl)) h1 bel fun x hx => hlt x (by simp [hx]))
        (trodAll_cons_mk (Below.trod laidOut (by kernel_rfl) (of_decide_eq_true (by kernel_rfl)) h2 bel fun x hx => hlt x (by simp [hx]))
          (trodAll_cons_mk (Below.trod laidOut (by kernel_rfl) (of_decide_eq_true (by kernel_rfl)) h3 bel fun x hx => hlt x (by simp [hx])) trodAll_mk0))), rfl, bel.frame _, fun h => by cases h⟩
end ST
end Go.Proofs.YtlkpadfkmdgjcaaGreatDoor
end
