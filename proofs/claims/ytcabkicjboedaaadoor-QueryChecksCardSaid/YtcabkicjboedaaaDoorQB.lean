import Derived.Test.YtcabkicjboedaaaDoorQA
namespace Go.Proofs.YtcabkicjboedaaaDoor
open Go Go.Ev
set_option linter.unusedVariables false
set_option linter.unusedSimpArgs false
set_option maxRecDepth 100000

theorem apFlaw : appT Tryd.prog 38 2 24 = true := by kernel_rfl
theorem slFlaw_is : ∃ e, Tryd.prog.underlying 38 = some (.slice e) := slT_of (by kernel_rfl)
theorem rollF_more : ∀ (d a : List Bool), 32 ≤ a.length → rollF (a ++ d) = rollF a
  | [], a, _ => by simp
  | x :: d, a, h => by
    have e : a ++ x :: d = (a ++ [x]) ++ d := by simp
    have hz : bitF a.length = 0 := by unfold bitF; rw [if_neg (by omega), if_pos (by omega)]
    rw [e, rollF_more d (a ++ [x]) (by simp; omega), rollF_snoc, hz, Nat.or_zero, ite_self]
theorem rollF_take (l : List Bool) (i : Nat) (h : 32 ≤ i) (hi : i ≤ l.length) : rollF (l.take i) = rollF l := by
  have := rollF_more (l.drop i) (l.take i) (by rw [List.length_take]; omega)
  rw [List.take_append_drop] at this
  exact this.symm

def FlInv (w0 : World) (b3 : Nat) (f : Filter) (v : Value) (ls : List Leaf) (w : World) : Prop :=
  Own w v 2 (leafCells [] ls) ∧ Same w0 w ∧ (∀ b, vblk v b → w0.heap.size ≤ b) ∧ blk w b3 = some (.cells #[msk f.wth, msk f.wout, msk f.chg] 29) ∧ b3 < w0.heap.size
section
variable {w0 w : World} {b3 : Nat} {f : Filter} {v : Value} {ls : List Leaf} {K : Value → World → Prop}
theorem addFlaw (h : FlInv w0 b3 f v ls w) (hl : ls.length ≤ 10) (wh : ByteArray) (k : Nat) (hK : ∀ v' w', FlInv w0 b3 f v' (ls ++ [([wh], k)]) w' → K v' w') :
    kbld [(.string ⟨#[]⟩), (.int .i64 0)] [(0, 1, (.string wh)), (1, 1, (.int .i64 k))] fun v27 => kbldS [(.string ⟨#[]⟩), (.int .i64 0)] 1 [(0, 2, v27)] 42 w fun v28 w29 =>
      ksem Tryd.prog (Builtin.append_ #[38, 38] 0 #[v, v28]) w29 K := by
  obtain ⟨ho, hm, hv, hb, hlt⟩ := h
  refine kbld_of (cs := [.string wh, .int .i64 k]) rfl ?_
  refine kbldS_of (cs := [.string wh, .int .i64 k]) rfl fun w2 h2 hs2 hb2 => ?_
  have hlen := leafCells_len [] ls
  have hone : oneCells ([.string wh, .int .i64 k] : List Value) = true := rfl
  refine ksem_append apFlaw (by omega) (ho.same h2) (Src.ofSlIs (hk := slFlaw_is.choose_spec) 1 (SlIs.blk hb2 rfl) hone) ?_ ?_ ?_
  · show _ + 2 ≤ _; omega
  · show (_ + 2) * 24 ≤ _; omega
  intro v' w' ho' hm' hf'
  refine hK _ _ ⟨?_, Mod.after (hm.trans h2) hm' hv, fun b hb => ?_, hm'.get (h2.get hb (fun h => h)) (fun h => by have := hv _ h; omega), hlt⟩
  · rw [leafCells_append]; exact ho'
  · rcases hf' b hb with h | h
    · exact hv b h
    · have := hm.size; have := h2.size; omega
theorem condFlaw (h : FlInv w0 b3 f v ls w) (hl : ls.length ≤ 10) (wh : ByteArray) (k m all : Nat) (hm : m < 4294967296) (ha : all < 4294967296) (hK : ∀ v' w', FlInv w0 b3 f v' (ls ++ flawF wh k m all) w' → K v' w') :
    kint .u32 .andNot (msk m) (msk all) fun v25 => kint .u32 .neq v25 (.int .u32 0) fun v26 => kB v26 fun b76 => kIf b76
      (kbld [(.string ⟨#[]⟩), (.int .i64 0)] [(0, 1, (.string wh)), (1, 1, (.int .i64 k))] fun v27 => kbldS [(.string ⟨#[]⟩), (.int .i64 0)] 1 [(0, 2, v27)] 42 w fun v28 w29 =>
        ksem Tryd.prog (Builtin.append_ #[38, 38] 0 #[v, v28]) w29 K) (K v w) := by
  rw [msk, msk, kint_andNot, u32_andN hm ha, kint_neq, kB_bool]
  refine kIf_dec (fun hne => ?_) (fun heq => ?_)
  · refine addFlaw h hl wh k fun v' w' h' => hK _ _ ?_
    have e : flawF wh k m all = [([wh], k)] := by unfold flawF; rw [if_neg (by omega)]
    rw [e]; exact h'
  · refine hK _ _ ?_
    have e : flawF wh k m all = [] := by unfold flawF; rw [if_pos (by omega)]
    rw [e, List.append_nil]; exact h
theorem condFlaw2 (h : FlInv w0 b3 f v ls w) (hl : ls.length ≤ 10) (wh : ByteArray) (k m n : Nat) (hm : m < 4294967296) (hn : n < 4294967296) (hK : ∀ v' w', FlInv w0 b3 f v' (ls ++ flawF wh k (m &&& n) 0) w' → K v' w') :
    kint .u32 .and (msk m) (msk n) fun v25 => kint .u32 .neq v25 (.int .u32 0) fun v26 => kB v26 fun b76 => kIf b76
      (kbld [(.string ⟨#[]⟩), (.int .i64 0)] [(0, 1, (.string wh)), (1, 1, (.int .i64 k))] fun v27 => kbldS [(.string ⟨#[]⟩), (.int .i64 0)] 1 [(0, 2, v27)] 42 w fun v28 w29 =>
        ksem Tryd.prog (Builtin.append_ #[38, 38] 0 #[v, v28]) w29 K) (K v w) := by
  have hmn : m &&& n < 4294967296 := Nat.lt_of_le_of_lt Nat.and_le_left hm
  have ez : andN (m &&& n) 0 = m &&& n := by
    have : (m &&& n) &&& (2 ^ 32 - 1) = (m &&& n) % 2 ^ 32 := Nat.and_two_pow_sub_one_eq_mod _ 32
    have e2 : (m &&& n) % 2 ^ 32 = m &&& n := Nat.mod_eq_of_lt hmn
    rw [e2] at this
    exact this
  rw [msk, msk, kint_and, u32_and hm hn, kint_neq, kB_bool]
  refine kIf_dec (fun hne => ?_) (fun heq => ?_)
  · refine addFlaw h hl wh k fun v' w' h' => hK _ _ ?_
    have e : flawF wh k (m &&& n) 0 = [([wh], k)] := by unfold flawF; rw [ez, if_neg (by omega)]
    rw [e]; exact h'
  · refine hK _ _ ?_
    have e : flawF wh k (m &&& n) 0 = [] := by unfold flawF; rw [ez, if_pos (by omega)]
    rw [e, List.append_nil]; exact h
end

theorem refTail {w0 w : World} {b3 : Nat} (f : Filter) (hf : f.ok) (all : Nat) (ha : all < 4294967296) (Q : Value → World → Prop) (hb : blk w b3 = some (.cells #[msk f.wth, msk f.wout, msk f.chg] 29))
    (hQ : ∀ v' w', FlInv w b3 f v' (checkF all f) w' → Q v' w') : f11_4 (.pointer (some ⟨b3, 0, none⟩)) (msk all) Q w := by
  obtain ⟨f1, f2, f3⟩ := hf
  have g1 := flawF_len sWith 1 f.wth all
  have g2 := flawF_len sWithout 1 f.wout all
  have g3 := flawF_len sChanged 1 f.chg all
  have g4 := flawF_len sWithout 9 (f.wth &&& f.wout) 0
  have g5 := flawF_len sChanged 7 f.chg f.wth
  unfold f11_4
  refine kbldS_of (cs := []) rfl fun w1 h1 hs1 hb1 => ?_
  have hbw := h1.get hb (fun h => h)
  have i0 : FlInv w b3 f (.slice (some ⟨w.heap.size, 0, none⟩) 0 0) [] w1 :=
    ⟨Own.blk (arr := #[]) (n := 0) hb1 rfl (by simp [maxLen]), h1, fun b hb => by rw [vblk_new hb]; exact Nat.le_refl _, hbw, lt_of_blk hb⟩
  refine kfld_of ?_
  refine kld_of (v := msk f.wth) hbw rfl ?_
  refine condFlaw i0 (by simp) sWith 1 f.wth all f1 ha fun v1 w2 i1 => ?_
  unfold f11_5
  refine kfld_of ?_
  refine kld_of (v := msk f.wout) i1.2.2.2.1 rfl ?_
  refine condFlaw i1 (by simp; omega) sWithout 1 f.wout all f2 ha fun v2 w3 i2 => ?_
  unfold f11_6
  refine kfld_of ?_
  refine kld_of (v := msk f.chg) i2.2.2.2.1 rfl ?_
  refine condFlaw i2 (by simp; omega) sChanged 1 f.chg all f3 ha fun v3 w4 i3 => ?_
  unfold f11_7
  refine kfld_of ?_
  refine kld_of (v := msk f.wth) i3.2.2.2.1 rfl ?_
  refine kfld_of ?_
  refine kld_of (v := msk f.wout) i3.2.2.2.1 rfl ?_
  refine condFlaw2 i3 (by simp; omega) sWithout 9 f.wth f.wout f1 f2 fun v4 w5 i4 => ?_
  unfold f11_8
  refine kfld_of ?_
  refine kld_of (v := msk f.chg) i4.2.2.2.1 rfl ?_
  refine kfld_of ?_
  refine kld_of (v := msk f.wth) i4.2.2.2.1 rfl ?_
  refine condFlaw i4 (by simp; omega) sChanged 7 f.chg f.wth f3 f1 fun v5 w6 i5 => ?_
  unfold f11_9
  refine hQ _ _ ?_
  simpa [checkF, List.append_assoc] using i5

def RollInv (l : List Comp) (w4 : World) (x5 x6 : Value) (wr : World) : Prop := ∃ i : Nat, i ≤ l.length ∧ i ≤ 32 ∧ x6 = .int .i64 i ∧ x5 = msk (rollF ((l.map (·.rb)).take i)) ∧ Same w4 wr
theorem refCheck_spec (l : List Comp) (a : Option Addr) (c : Nat) (r : Value) (hr : r.cells = #[r]) (f : Filter) (hf : f.ok) (w : World) (hs : SlIs w a l.length 7 (l.flatMap Comp.cells)) :
    Meets Tryd.prog 11 #[.agg #[.slice a l.length c, r], f.val] w fun v w' =>
      ∃ a' c', v = .slice a' (checkF (rollF (l.map (·.rb))) f).length c' ∧ SlIs w' a' (checkF (rollF (l.map (·.rb))) f).length 2 (leafCells [] (checkF (rollF (l.map (·.rb))) f)) ∧ Same w w' := by
  refine f11_ok ?_
  unfold f11
  refine knew_of fun w2 h2 hs2 hb1 => ?_
  refine knew_of fun w4 h4 hs4 hb2 => ?_
  have hb1 : blk w2 w.heap.size = some (.cells #[.slice a l.length c, r] 25) := by rw [hb1]; simp [Value.cells, hr]
  have hb2 : blk w4 w2.heap.size = some (.cells #[msk f.wth, msk f.wout, msk f.chg] 29) := hb2
  have hb1 := h4.get hb1 (fun h => h)
  have m4 := h2.trans h4
  refine kL_of (RollInv l w4) (fun _ y _ => 32 - (RowKit.intOf y).toNat) ⟨⟨0, by omega, by omega, rfl, by simp [rollF, msk], Mod.refl _ _⟩, ?_⟩
  rintro x y wr ⟨i, hi, hi2, rfl, rfl, hm⟩
  have hb1r := hm.get hb1 (fun h => h)
  have hb2r := hm.get hb2 (fun h => h)
  have hsr := (hs.same m4).same hm
  have done : rollF ((l.map (·.rb)).take i) = rollF (l.map (·.rb)) → f11_4 (.pointer (some ⟨w2.heap.size, 0, none⟩)) (msk (rollF ((l.map (·.rb)).take i))) (fun v w' =>
      ∃ a' c', v = .slice a' (checkF (rollF (l.map (·.rb))) f).length c' ∧ SlIs w' a' (checkF (rollF (l.map (·.rb))) f).length 2 (leafCells [] (checkF (rollF (l.map (·.rb))) f)) ∧ Same w w') wr := by
    intro e
    rw [e]
    refine refTail (w0 := wr) f hf _ (rollF_lt _) _ hb2r fun v' w' hi => ?_
    obtain ⟨ho, hm', _, _, _⟩ := hi
    obtain ⟨a', n', c', rfl, hs', _⟩ := ho.is
    have : n' = (checkF (rollF (l.map (·.rb))) f).length := by have := hs'.1; rw [leafCells_len] at this; omega
    subst this
    exact ⟨a', c', rfl, hs', m4.trans (hm.trans hm')⟩
  unfold f11_0
  refine kfld_of ?_
  refine kld_of (v := .slice a l.length c) hb1r rfl ?_
  rw [klen_slice, kint_lss, kB_bool]
  refine kIf_dec (fun hlt => ?_) (fun hge => ?_)
  · have hlt : i < l.length := by omega
    rw [kint_lss]
    unfold f11_1
    rw [kB_bool]
    refine kIf_dec (fun h32 => ?_) (fun h32 => ?_)
    · have hadd := i64_succ (i := i) (by omega)
      have htk : (l.map (·.rb)).take (i + 1) = (l.map (·.rb)).take i ++ [l[i].rb] := by rw [List.take_succ_eq_append_getElem (by simpa using hlt)]; simp
      have hlen : ((l.map (·.rb)).take i).length = i := by simp; omega
      have step : ∀ y5 : Value, y5 = msk (rollF ((l.map (·.rb)).take (i + 1))) → f11_3 (.pointer (some ⟨w.heap.size, 0, none⟩)) (.pointer (some ⟨w2.heap.size, 0, none⟩)) y5 (.int .i64 i) (fun y5 y6 w2_1 => RollInv l w4 y5 y6 w2_1 ∧ 32 - (RowKit.intOf y6).toNat < 32 - (RowKit.intOf (Value.int .i64 i)).toNat) (fun v w' =>
      ∃ a' c', v = .slice a' (checkF (rollF (l.map (·.rb))) f).length c' ∧ SlIs w' a' (checkF (rollF (l.map (·.rb))) f).length 2 (leafCells [] (checkF (rollF (l.map (·.rb))) f)) ∧ Same w w') wr := by
        rintro y5 rfl
        unfold f11_3
        rw [kint_add, hadd]
        exact ⟨⟨i + 1, by omega, by omega, rfl, rfl, hm⟩, by simp [RowKit.intOf]; omega⟩
      rw [htk, rollF_snoc, hlen] at step
      unfold f11_2
      refine kfld_of ?_
      refine kld_of (v := .slice a l.length c) hb1r rfl ?_
      refine kixfld_of (F := Comp.cells) (fun _ => rfl) hsr hlt (v := .bool l[i].rb) rfl rfl ?_
      rw [kB_bool]
      refine kIf_of (fun h => ?_) (fun h => ?_)
      · refine bitF_of (c := (i : Int)) (by omega) (by omega) ?_
        rw [msk, msk, kint_or, u32_or (rollF_lt _) (bitF_lt _)]
        refine step _ ?_
        rw [if_pos h]; rfl
      · refine step _ ?_
        rw [if_neg (by rw [h]; decide)]
    · have : i = 32 := by omega
      exact done (rollF_take _ _ (by omega) (by simpa using hi))
  · have : i = l.length := by omega
    exact done (by rw [List.take_of_length_le (by simp; omega)])

theorem joinOk_checkF (all : Nat) (f : Filter) : ∀ x ∈ checkF all f, joinOk x.1 := by
  intro x hx
  simp only [checkF, List.mem_append] at hx
  have key : ∀ wh k m al, x ∈ flawF wh k m al → joinOk x.1 := by
    intro wh k m al h
    unfold flawF at h
    split at h
    · cases h
    · simp only [List.mem_singleton] at h
      subst h; simp [joinOk]
  rcases hx with h | h | h | h | h <;> exact key _ _ _ _ h
theorem checkF_len (all : Nat) (f : Filter) : (checkF all f).length ≤ 5 := by
  have g1 := flawF_len sWith 1 f.wth all
  have g2 := flawF_len sWithout 1 f.wout all
  have g3 := flawF_len sChanged 1 f.chg all
  have g4 := flawF_len sWithout 9 (f.wth &&& f.wout) 0
  have g5 := flawF_len sChanged 7 f.chg f.wth
  simp only [checkF, List.length_append]; omega

def IdxInv (n : Nat) (w0 : World) (x : Value) (wr : World) : Prop := ∃ i : Nat, i ≤ n ∧ x = .int .i64 i ∧ Same w0 wr
set_option maxHeartbeats 1000000 in
theorem QueryChecks_spec {S : Nat → Addr} {w : World} (hL : LaidE S w) (l : List Comp) (a : Option Addr) (c : Nat) (r : Value) (hr : r.cells = #[r]) (hs : SlIs w a l.length 7 (l.flatMap Comp.cells)) (f : Filter) (hf : f.ok) (frame : Int) (hfr : I64 frame)
    (ps : List Part) (hps : ∀ p ∈ ps, p.ok) (sa : Option Addr) (cp : Nat) (hsp : SlIs w sa ps.length 6 (ps.flatMap Part.cells)) :
    Meets Tryd.prog 3 #[.agg #[.slice a l.length c, r], f.val, .agg #[.int .i64 frame], .slice sa ps.length cp] w fun v w' => v = .bool true ∧ Same w w' := by
  refine f3_ok ?_
  unfold f3
  refine knew_of fun w1 h1 hs1 hb1 => ?_
  refine knew_of fun w2 h2 hs2 hb2 => ?_
  refine knew_of fun w3 h3 hs3 hb3 => ?_
  have hb1 : blk w1 w.heap.size = some (.cells #[.slice a l.length c, r] 25) := by rw [hb1]; simp [Value.cells, hr]
  have hb2 : blk w2 w1.heap.size = some (.cells #[msk f.wth, msk f.wout, msk f.chg] 29) := hb2
  have hb3 : blk w3 w2.heap.size = some (.cells #[.int .i64 frame] 30) := hb3
  have m3 := (h1.trans h2).trans h3
  refine kcall_of (awake_spec (hL.same m3)) ?_
  rintro v w4 ⟨rfl, h4⟩
  have m4 := m3.trans h4
  have hb1 := h4.get (h3.get (h2.get hb1 (fun h => h)) (fun h => h)) (fun h => h)
  have hb2 := h4.get (h3.get hb2 (fun h => h)) (fun h => h)
  have hb3 := h4.get hb3 (fun h => h)
  have hL4 := hL.same m4
  have hs4 := hs.same m4
  have hsp4 := hsp.same m4
  clear h1 h2 h3 h4
  rw [kun_not, kB_bool]
  refine kIf_of (fun h => by cases h) (fun _ => ?_)
  unfold f3_0
  refine kfld_of ?_
  refine kld_of (v := .slice a l.length c) hb1 rfl ?_
  rw [klen_slice, kint_gtr, kB_bool]
  refine kIf_of (fun hle => ?_) (fun hgt => ?_)
  rotate_left
  · unfold f3_1
    rw [kB_bool, kIf_true]
    exact ⟨rfl, m4⟩
  have hle : l.length ≤ 60 := by simp at hle; omega
  rw [klen_slice, kint_gtr]
  unfold f3_1
  rw [kB_bool]
  refine kIf_dec (fun _ => ⟨rfl, m4⟩) (fun hpl => ?_)
  have hpl : ps.length ≤ 60 := by omega
  unfold f3_2
  refine kldN_of (cs := [.slice a l.length c, r]) hb1 (by simp) rfl (by omega) ?_
  refine kldN_of (cs := [msk f.wth, msk f.wout, msk f.chg]) hb2 (by simp) rfl (by omega) ?_
  refine kcall_of (Check_spec hL4 l (by omega) a c r hs4 hr f hf) ?_
  rintro v5 w5 ⟨hv5, h5⟩
  have m5 := m4.trans h5
  have hlen := checkF_len (rollF (l.map (·.rb))) f
  refine kcall_of (Leaves_sl (hL.same m5) hv5 (joinOk_checkF _ _) (by omega) (by omega)) ?_
  rintro v6 w6 ⟨a6, c6, rfl, hs6, h6⟩
  have h46 := h5.trans h6
  refine kldN_of (cs := [.slice a l.length c, r]) (h46.get hb1 (fun h => h)) (by simp) rfl (by omega) ?_
  refine kldN_of (cs := [msk f.wth, msk f.wout, msk f.chg]) (h46.get hb2 (fun h => h)) (by simp) rfl (by omega) ?_
  refine kcall_of (refCheck_spec l a c r hr f hf w6 (hs4.same h46)) ?_
  rintro v7 w7 ⟨a7, c7, rfl, hs7, h7⟩
  have h47 := h46.trans h7
  have hs6 := hs6.same h7
  generalize checkF (rollF (l.map (·.rb))) f = ls at *
  rw [klen_slice, klen_slice, kint_neq, kB_bool]
  refine kIf_dec (fun h => absurd rfl h) (fun _ => ?_)
  unfold f3_3
  refine kL_of (IdxInv ls.length w7) (fun y _ => ls.length - (RowKit.intOf y).toNat) ⟨⟨0, by omega, rfl, Mod.refl _ _⟩, ?_⟩
  rintro y wr ⟨i, hi, rfl, hm⟩
  have hsa := hs6.same hm
  have hsb := hs7.same hm
  have h4r := h47.trans hm
  unfold f3_4
  rw [klen_slice, kint_lss, kB_bool]
  refine kIf_dec (fun hlt => ?_) (fun hge => ?_)
  · have hlt : i < ls.length := by omega
    have hF : ∀ x : Leaf, ((fun l : Leaf => [Value.string (joinP ([] ++ l.1)), .int .i64 l.2]) x).length = 2 := fun _ => rfl
    unfold f3_5
    refine kixfld_of hF hsa hlt (v := .string (joinP ([] ++ ls[i].1))) rfl rfl ?_
    refine kG_of rfl ?_
    refine kixfld_of hF hsb hlt (v := .string (joinP ([] ++ ls[i].1))) rfl rfl ?_
    refine kG_of rfl ?_
    rw [kstr_neq, kB_bool, decide_eq_true rfl]
    refine kIf_of (fun _ => ?_) (fun h => by cases h)
    refine kixfld_of hF hsa hlt (v := .int .i64 ls[i].2) rfl rfl ?_
    refine kG_of rfl ?_
    refine kixfld_of hF hsb hlt (v := .int .i64 ls[i].2) rfl rfl ?_
    refine kG_of rfl ?_
    rw [kint_neq]
    unfold f3_6
    rw [kB_bool]
    refine kIf_dec (fun h => absurd rfl h) (fun _ => ?_)
    unfold f3_7
    rw [kint_add, i64_succ (by omega)]
    exact ⟨⟨i + 1, by omega, rfl, hm.drew⟩, by simp [RowKit.intOf]; omega⟩
  · unfold f3_8
    have h4r : Same w4 wr.drew := h4r.drew
    have m8 := m4.trans h4r
    have hb2r := h4r.get hb2 (fun h => h)
    have hb3r := h4r.get hb3 (fun h => h)
    refine kldN_of (cs := [msk f.wth, msk f.wout, msk f.chg]) hb2r (by simp) rfl (by omega) ?_
    refine kG_of rfl ?_
    rw [kix_array]
    refine kG_of (by omega) ?_
    refine kld_of (v := .int .i64 frame) hb3r rfl ?_
    refine kG_of rfl ?_
    refine kcall_of (means_spec f hf frame hfr ps hps (by omega) sa cp _ (hsp4.same h4r)) ?_
    rintro v9 w9 ⟨rfl, h9⟩
    have h49 := h4r.trans h9
    refine kldN_of (cs := [msk f.wth, msk f.wout, msk f.chg]) (h49.get hb2 (fun h => h)) (by simp) rfl (by omega) ?_
    refine kG_of rfl ?_
    refine kG_of (kldN_of (cs := [msk f.wth, msk f.wout, msk f.chg]) hb2r (by simp) rfl (by omega) ⟨rfl, rfl⟩) ?_
    rw [kix_array]
    refine kG_of (by omega) ?_
    refine kld_of (v := .int .i64 frame) (h49.get hb3 (fun h => h)) rfl ?_
    refine kG_of rfl ?_
    refine kG_of (kld_of (v := .int .i64 frame) hb3r rfl ⟨rfl, rfl⟩) ?_
    refine kcall_of (refMeans_spec f hf frame hfr ps hps (by omega) sa cp _ (hsp4.same h49)) ?_
    rintro v10 w10 ⟨rfl, h10⟩
    rw [kbool_eql]
    exact ⟨by simp, m4.trans (h49.trans h10)⟩
end Go.Proofs.YtcabkicjboedaaaDoor
