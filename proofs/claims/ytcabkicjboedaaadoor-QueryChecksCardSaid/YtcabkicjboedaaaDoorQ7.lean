import Derived.Test.YtcabkicjboedaaaDoorQ6
namespace Go.Proofs.YtcabkicjboedaaaDoor
open Go Go.Ev
set_option linter.unusedVariables false
set_option linter.unusedSimpArgs false
set_option maxRecDepth 100000

def bitOf (comp : Int) : Nat := ((IntKind.u64.wrap comp).tmod 8).toNat
theorem u64_mod (comp : Int) : 0 ≤ (IntKind.u64.wrap comp).tmod 8 ∧ (IntKind.u64.wrap comp).tmod 8 < 8 := by
  have h : 0 ≤ IntKind.u64.wrap comp := by
    show 0 ≤ comp % 18446744073709551616
    omega
  rw [Int.tmod_eq_emod_of_nonneg h]
  omega
theorem shl_bit (comp : Int) : ishl .u32 1 ((IntKind.u64.wrap comp).tmod 8) = ((2 ^ bitOf comp : Nat) : Int) := by
  have h := u64_mod comp
  have hb : bitOf comp < 8 := by unfold bitOf; omega
  have h2 : 2 ^ bitOf comp ≤ 2 ^ 7 := Nat.pow_le_pow_right (by omega) (by omega)
  show IntKind.u32.wrap (1 * 2 ^ (min (bitOf comp) 32)) = _
  rw [Nat.min_eq_left (by omega)]
  have e : (1 * 2 ^ bitOf comp : Int) = ((2 ^ bitOf comp : Nat) : Int) := by simp
  rw [e, wrap_u32 (Int.natCast_nonneg _) (by omega)]

theorem kshl_bit (comp : Int) (cb : Nat) (h : cb = 2 ^ bitOf comp) {K : Value → Prop} : kint .u32 .shl (.int .u32 1) (.int .u64 ((IntKind.u64.wrap comp).tmod 8)) K = K (msk cb) := by
  rw [kint_shl, shl_bit, ← h]; simp [kG, mG, (u64_mod comp).1, msk]
theorem kandn {a b : Nat} (ha : a < 4294967296) (hb : b < 4294967296) {K : Value → Prop} : kint .u32 .andNot (msk a) (msk b) K = K (msk (andN a b)) := by
  rw [msk, msk, kint_andNot, u32_andN ha hb, msk]
theorem kor {a b : Nat} (ha : a < 4294967296) (hb : b < 4294967296) {K : Value → Prop} : kint .u32 .or (msk a) (msk b) K = K (msk (a ||| b)) := by
  rw [msk, msk, kint_or, u32_or ha hb, msk]
theorem parts_sl (x : Being) (hx : x.ok) (w : World) : Meets Tryd.prog 14 #[x.val] w fun v w' => ∃ a c, v = .slice a (x.parts 8).length c ∧ SlIs w' a (x.parts 8).length 6 ((x.parts 8).flatMap Part.cells) ∧ Same w w' := by
  refine (parts_spec x hx w).mono fun v w' h => ?_
  obtain ⟨ho, hm⟩ := h
  obtain ⟨a, n, c, rfl, hs, _⟩ := ho.is
  have : n = (x.parts 8).length := by have := hs.1; rw [flat_len Part.cells 6 (fun _ => rfl)] at this; omega
  subst this
  exact ⟨a, c, rfl, hs, hm⟩
theorem parts_ok (x : Being) (hx : x.ok) : ∀ p ∈ x.parts 8, p.ok := by
  intro p hp
  simp only [Being.parts, List.mem_map, List.mem_filter, List.mem_range] at hp
  obtain ⟨i, ⟨hi, _⟩, rfl⟩ := hp
  have ht : I64 (x.ticks.getD i 0) := by
    rw [List.getD_eq_getElem?_getD, List.getElem?_eq_getElem (by have := hx.2.1; omega)]
    exact hx.2.2 _ (List.getElem_mem _)
  simp only [Part.ok, Being.part]
  unfold I64 at *
  omega
set_option maxHeartbeats 2000000 in
theorem QueryParts_spec {S : Nat → Addr} {w : World} (hL : LaidE S w) (x : Being) (hx : x.ok) (f : Filter) (hf : f.ok) (comp frame : Int) (hfr : I64 frame) :
    Meets Tryd.prog 4 #[x.val, f.val, .int .i64 comp, .int .i64 frame] w fun v w' => v = .bool true ∧ Same w w' := by
  obtain ⟨f1, f2, f3⟩ := hf
  have hb8 : bitOf comp < 8 := by have := u64_mod comp; unfold bitOf; omega
  obtain ⟨cb, hcb⟩ : ∃ cb, cb = 2 ^ bitOf comp := ⟨_, rfl⟩
  have hcb' : cb < 4294967296 := by
    have h2 : 2 ^ bitOf comp ≤ 2 ^ 7 := Nat.pow_le_pow_right (by omega) (by omega)
    omega
  have hshl := shl_bit comp
  rw [← hcb] at hshl
  refine f4_ok ?_
  unfold f4
  refine knew_of fun w2 h2 hs2 hb1 => ?_
  refine knew_of fun w4 h4 hs4 hb2 => ?_
  have m4 := h2.trans h4
  have hb1 := h4.get hb1 (fun h => h)
  refine kcall_of (awake_spec (hL.same m4)) ?_
  rintro v w6 ⟨rfl, h6⟩
  have hb1 := h6.get hb1 (fun h => h)
  have hb2 := h6.get hb2 (fun h => h)
  have m6 := m4.trans h6
  simp -dsimp only [kun_not, kB_bool, Bool.not_true]
  refine kIf_of (fun h => by cases h) (fun _ => ?_)
  unfold f4_0
  simp -dsimp only [kcnv_int, kint_rem]
  refine kG_of (by omega) ?_
  refine Eq.mpr (kshl_bit comp cb hcb) ?_
  refine kfld_of ?_
  refine kld_of (v := msk f.wth) hb2 rfl ?_
  refine Eq.mpr (kandn f1 hcb') ?_
  refine kfld_of ?_
  refine kst_of (vs := [msk (andN f.wth cb)]) hb2 rfl rfl rfl (by simp [Filter.val, Value.cells]) (by simp) fun w15 h15 hs15 hb15 => ?_
  refine kfld_of ?_
  refine kld_of (v := msk f.wout) hb15 rfl ?_
  refine Eq.mpr (kandn f2 hcb') ?_
  refine kfld_of ?_
  refine kst_of (vs := [msk (andN f.wout cb)]) hb15 rfl rfl rfl (by simp [Filter.val, Value.cells]) (by simp) fun w20 h20 hs20 hb20 => ?_
  refine kfld_of ?_
  refine kld_of (v := msk f.chg) hb20 rfl ?_
  refine Eq.mpr (kandn f3 hcb') ?_
  refine kfld_of ?_
  refine kst_of (vs := [msk (andN f.chg cb)]) hb20 rfl rfl rfl (by simp [Filter.val, Value.cells]) (by simp) fun w25 h25 hs25 hb25 => ?_
  have g1 := andN_lt (b := cb) f1
  have g2 := andN_lt (b := cb) f2
  have g3 := andN_lt (b := cb) f3
  have hb25 : blk w25 w2.heap.size = some (.cells #[msk (andN f.wth cb), msk (andN f.wout cb), msk (andN f.chg cb)] 29) := hb25
  have m25 : Same w w25 := Mod.after (Mod.after (Mod.after m6 h15 (fun b hb => by have := h2.size; omega)) h20 (fun b hb => by have := h2.size; omega)) h25 (fun b hb => by have := h2.size; omega)
  have hb1 := h25.get (h20.get (h15.get hb1 (fun h => by omega)) (fun h => by omega)) (fun h => by omega)
  clear hb15 hb20 hb2 h15 h20 h25
  refine kldN_of (cs := [msk (andN f.wth cb), msk (andN f.wout cb), msk (andN f.chg cb)]) hb25 (by simp) rfl (by omega) ?_
  refine knew_of fun w28 h28 hs28 hb28 => ?_
  refine kst_of (vs := [msk (andN f.wth cb), msk (andN f.wout cb), msk (andN f.chg cb)]) hb28 rfl rfl rfl (by simp) (by simp) fun w29 h29 hs29 hb29 => ?_
  refine kfld_of ?_
  refine kld_of (v := msk (andN f.wth cb)) hb29 rfl ?_
  refine Eq.mpr (kor g1 hcb') ?_
  refine kfld_of ?_
  refine kst_of (vs := [msk (andN f.wth cb ||| cb)]) hb29 rfl rfl rfl (by simp) (by simp) fun w34 h34 hs34 hb34 => ?_
  have hlt25 := lt_of_blk hb25
  have hb34x := h34.get (h29.get (h28.get hb25 (fun h => h)) (fun h => by omega)) (fun h => by omega)
  have hb1 := h34.get (h29.get (h28.get hb1 (fun h => h)) (fun h => by have := m25.size; have := lt_of_blk hb1; omega)) (fun h => by have := m25.size; have := lt_of_blk hb1; omega)
  have m34 : Same w w34 := Mod.after (Mod.after (m25.trans h28) h29 (fun b hb => by have := m25.size; omega)) h34 (fun b hb => by have := m25.size; omega)
  have hb34 : blk w34 w25.heap.size = some (.cells #[msk (andN f.wth cb ||| cb), msk (andN f.wout cb), msk (andN f.chg cb)] 29) := hb34
  clear hb28 hb29 h28 h29 h34 hb25
  refine kldN_of (cs := [msk (andN f.wth cb), msk (andN f.wout cb), msk (andN f.chg cb)]) hb34x (by simp) rfl (by omega) ?_
  refine knew_of fun w37 h37 hs37 hb37 => ?_
  refine kst_of (vs := [msk (andN f.wth cb), msk (andN f.wout cb), msk (andN f.chg cb)]) hb37 rfl rfl rfl (by simp) (by simp) fun w38 h38 hs38 hb38 => ?_
  refine kfld_of ?_
  refine kld_of (v := msk (andN f.wout cb)) hb38 rfl ?_
  refine Eq.mpr (kor g2 hcb') ?_
  refine kfld_of ?_
  refine kst_of (vs := [msk (andN f.wout cb ||| cb)]) hb38 rfl rfl rfl (by simp) (by simp) fun w43 h43 hs43 hb43 => ?_
  have hlt34 := lt_of_blk hb34
  have hltx := lt_of_blk hb34x
  have hlt1 := lt_of_blk hb1
  have hb43x := h43.get (h38.get (h37.get hb34x (fun h => h)) (fun h => by omega)) (fun h => by omega)
  have hb43a := h43.get (h38.get (h37.get hb34 (fun h => h)) (fun h => by omega)) (fun h => by omega)
  have hb1 := h43.get (h38.get (h37.get hb1 (fun h => h)) (fun h => by omega)) (fun h => by omega)
  have m43 : Same w w43 := Mod.after (Mod.after (m34.trans h37) h38 (fun b hb => by have := m34.size; omega)) h43 (fun b hb => by have := m34.size; omega)
  have hb43 : blk w43 w34.heap.size = some (.cells #[msk (andN f.wth cb), msk (andN f.wout cb ||| cb), msk (andN f.chg cb)] 29) := hb43
  clear hb37 hb38 h37 h38 h43
  refine kldN_of (cs := (Value.cells x.val).toList) hb1 ?_ ?_ (by omega) ?_
  · have := hx.2.1; simp [Being.val, Value.cells, this]
  · have := hx.2.1
    rw [List.drop_zero]; exact List.take_of_length_le (by simp [Being.val, Value.cells, this])
  refine kcall_of (parts_sl x hx w43) ?_
  rintro v w46 ⟨a46, c46, rfl, hs46, h46⟩
  have hp := parts_ok x hx
  have hpl := x.parts_len 8
  have hlaw := parts_law ⟨andN f.wth cb, andN f.wout cb, andN f.chg cb⟩ (bitOf comp) (by omega) frame (x.parts 8)
  rw [← hcb] at hlaw
  have ok0 : Filter.ok ⟨andN f.wth cb, andN f.wout cb, andN f.chg cb⟩ := ⟨g1, g2, g3⟩
  have okA : Filter.ok ⟨andN f.wth cb ||| cb, andN f.wout cb, andN f.chg cb⟩ := ⟨or_lt g1 hcb', g2, g3⟩
  have okB : Filter.ok ⟨andN f.wth cb, andN f.wout cb ||| cb, andN f.chg cb⟩ := ⟨g1, or_lt g2 hcb', g3⟩
  refine kldN_of (cs := [msk (andN f.wth cb), msk (andN f.wout cb), msk (andN f.chg cb)]) (show blk w46.drew _ = _ from h46.get hb43x (fun h => h)) (by simp) rfl (by omega) ?_
  refine kG_of rfl ?_
  have hd : Same w46 w46.drew := (Mod.refl _ _).drew
  refine kcall_of (means_spec _ ok0 frame hfr (x.parts 8) hp (by omega) a46 c46 w46.drew (hs46.same hd)) ?_
  rintro v48 w49 ⟨hv48, h49⟩
  subst hv48
  have h49 : Same w43 w49 := (h46.trans hd).trans h49
  have hs49 := hs46.same (hd.trans ‹Same w46.drew w49›)
  refine kldN_of (cs := [msk (andN f.wth cb ||| cb), msk (andN f.wout cb), msk (andN f.chg cb)]) (h49.get hb43a (fun h => h)) (by simp) rfl (by omega) ?_
  refine kG_of rfl ?_
  refine kG_of (kldN_of (cs := [msk (andN f.wth cb ||| cb), msk (andN f.wout cb), msk (andN f.chg cb)]) (show blk w46.drew _ = _ from h46.get hb43a (fun h => h)) (by simp) rfl (by omega) ⟨rfl, rfl⟩) ?_
  refine kcall_of (means_spec _ okA frame hfr (x.parts 8) hp (by omega) a46 c46 w49 hs49) ?_
  rintro v51 w52 ⟨hv51, h52⟩
  subst hv51
  generalize hM0 : meansF ⟨andN f.wth cb, andN f.wout cb, andN f.chg cb⟩ frame (x.parts 8) = M0 at hlaw
  generalize hMA : meansF ⟨andN f.wth cb ||| cb, andN f.wout cb, andN f.chg cb⟩ frame (x.parts 8) = MA at hlaw
  have h52' := h49.trans h52
  have hs52 := hs49.same h52
  have fin : ∀ (w2 : World) (b : Bool), Same w52 w2 → b = false → f4_1 (.int .i64 frame) (.pointer (some ⟨w25.heap.size, 0, none⟩)) (.pointer (some ⟨w34.heap.size, 0, none⟩)) (.slice a46 (x.parts 8).length c46) (.bool b) (fun v w' => v = .bool true ∧ Same w w') w2 := by
    intro w2 b h2' hbf
    subst hbf
    unfold f4_1
    simp -dsimp only [kB_bool]
    refine kIf_of (fun h => by cases h) (fun _ => ?_)
    unfold f4_2
    have h2w := h52'.trans h2'
    refine kldN_of (cs := [msk (andN f.wth cb ||| cb), msk (andN f.wout cb), msk (andN f.chg cb)]) (h2w.get hb43a (fun h => h)) (by simp) rfl (by omega) ?_
    refine kcall_of (means_spec _ okA frame hfr (x.parts 8) hp (by omega) a46 c46 w2 (hs52.same h2')) ?_
    rintro v59 w60 ⟨rfl, h60⟩
    rw [hMA]
    simp -dsimp only [kB_bool]
    refine kIf_of (fun hA => ?_) (fun hA => ?_)
    · refine kldN_of (cs := [msk (andN f.wth cb), msk (andN f.wout cb ||| cb), msk (andN f.chg cb)]) ((h2w.trans h60).get hb43 (fun h => h)) (by simp) rfl (by omega) ?_
      refine kcall_of (means_spec _ okB frame hfr (x.parts 8) hp (by omega) a46 c46 w60 ((hs52.same h2').same h60)) ?_
      rintro v63 w64 ⟨rfl, h64⟩
      have : meansF ⟨andN f.wth cb, andN f.wout cb ||| cb, andN f.chg cb⟩ frame (x.parts 8) = false := by
        have := hlaw.2; rw [hA] at this; simpa using this
      rw [this]
      simp -dsimp only [kun_not, Bool.not_false]
      exact ⟨trivial, m43.trans ((h2w.trans h60).trans h64)⟩
    · simp -dsimp only [kun_not, Bool.not_false]
      exact ⟨trivial, m43.trans (h2w.trans h60)⟩
  simp -dsimp only [kB_bool]
  refine kIf_of (fun hA => ?_) (fun hA => ?_)
  · refine kldN_of (cs := [msk (andN f.wth cb), msk (andN f.wout cb ||| cb), msk (andN f.chg cb)]) (h52'.get hb43 (fun h => h)) (by simp) rfl (by omega) ?_
    refine kG_of rfl ?_
    refine kcall_of (means_spec _ okB frame hfr (x.parts 8) hp (by omega) a46 c46 w52 hs52) ?_
    rintro v55 w56 ⟨rfl, h56⟩
    simp -dsimp only [kbool_neq]
    refine fin _ _ h56 ?_
    have hA' : MA = false := by simpa using hA
    have := hlaw.1
    rw [hA', Bool.false_or] at this
    rw [this]; simp
  · simp -dsimp only [kbool_neq]
    refine fin _ _ (Mod.refl _ _) ?_
    have hA' : MA = true := by simpa using hA
    have := hlaw.1
    rw [hA', Bool.true_or] at this
    rw [this]; simp
end Go.Proofs.YtcabkicjboedaaaDoor
