import Derived.Test.YtcabkicjboedaaaDoorQ2
namespace Go.Proofs.YtcabkicjboedaaaDoor
open Go Go.Ev
set_option linter.unusedVariables false
set_option linter.unusedSimpArgs false
set_option maxRecDepth 100000

/-! ### The schema of eight -/
def comp8 (i : Nat) : Comp := ⟨ByteArray.extract ⟨#[97, 98, 99, 100, 101, 102, 103, 104]⟩ i (i + 1), 1, decide ((i : Int) < 7), 0, 0, 0, 0⟩
def comps8 (n : Nat) : List Comp := (List.range n).map comp8
theorem comps8_succ (n : Nat) : comps8 (n + 1) = comps8 n ++ [comp8 n] := by simp [comps8, List.range_succ]
theorem apComp : appT Tryd.prog 22 7 64 = true := by kernel_rfl
theorem slComp_is : ∃ e, Tryd.prog.underlying 22 = some (.slice e) := slT_of (by kernel_rfl)
def EightInv (w w0 : World) (b0 b1 : Nat) (x : Value) (wr : World) : Prop :=
  ∃ (i : Nat) (v : Value) (c : Array Value), i ≤ 8 ∧ x = .int .i64 i ∧ blk wr b0 = some (.cells c 25) ∧ c.size = 2 ∧ blk wr b1 = some (.cells #[v, .slice none 0 0] 25) ∧ Own wr v 7 ((comps8 i).flatMap Comp.cells) ∧ Same w wr ∧ (∀ b, vblk v b → w0.heap.size ≤ b) ∧ w0.heap.size ≤ wr.heap.size

set_option maxHeartbeats 1000000 in
theorem eight_spec' (l : List Comp) (hl : l = comps8 8) (w : World) : Meets Tryd.prog 27 #[] w fun v w' => ∃ a c, v = .agg #[.slice a l.length c, .slice none 0 0] ∧ SlIs w' a l.length 7 (l.flatMap Comp.cells) ∧ Same w w' := by
  refine f27_ok ?_
  unfold f27
  refine knew_of fun w2 h2 hs2 hb0 => ?_
  simp -dsimp [fillL]
  have h5 : ∀ o, Same w (w2.alloc o) := fun o => h2.alloc o
  refine kL_of (EightInv w (w2.alloc (.cells #[.slice none 0 0, .slice none 0 0] 25)) w.heap.size w2.heap.size) (fun x _ => 8 - (RowKit.intOf x).toNat) ⟨⟨0, _, _, by omega, rfl, (alloc_heap_old (by omega)).trans hb0, rfl, alloc_heap_new _ _, Own.nil _ _, h5 _, fun b hb => (by obtain ⟨_, _, _, h⟩ := hb; cases h), Nat.le_refl _⟩, ?_⟩
  rintro x wr ⟨i, v, c, hi, rfl, hbb0, hc, hbb1, hown, hm, hf, hsz⟩
  have hz : (w2.alloc (.cells #[.slice none 0 0, .slice none 0 0] 25)).heap.size = w2.heap.size + 1 := by simp
  rw [hz] at hf hsz
  obtain ⟨va, vn, vc, rfl, hs, _⟩ := hown.is
  unfold f27_0
  simp -dsimp
  refine kIf_dec (fun hlt => ?_) (fun hge => ?_)
  · have hlt : i < 8 := by omega
    have hadd := i64_succ (i := i) (by omega)
    have hadd' : ((i + 1 : Nat) : Int) = (i : Int) + 1 := by simp
    unfold f27_1
    generalize hstr : (⟨#[97, 98, 99, 100, 101, 102, 103, 104]⟩ : ByteArray) = str
    have hx : str.size = 8 := by rw [← hstr]; rfl
    refine kfld_of ?_
    refine kld_of (v := .slice va vn vc) (show blk wr.drew _ = _ from hbb1) rfl ?_
    refine kG_of rfl ?_
    simp -dsimp only [kint_add, hadd]
    rw [ksl_string rfl rfl]
    simp only [loV_int, hiV_int]
    refine kG_of ⟨by omega, by omega, by rw [hx]; omega⟩ ?_
    have hname : str.extract (i : Int).toNat ((i + 1 : Nat) : Int).toNat = (comp8 i).name := by
      have e1 : (i : Int).toNat = i := by omega
      have e2 : ((i + 1 : Nat) : Int).toNat = i + 1 := by omega
      rw [e1, e2, comp8, ← hstr]
    rw [hname]
    simp -dsimp only [kint_lss]
    refine kbld_of (cs := (comp8 i).cells) (by rfl) ?_
    refine kbldS_of (cs := (comp8 i).cells) (by rfl) fun w15 h15 hs15 hb15 => ?_
    have h15 : Same wr w15 := ((Mod.refl _ _).drew).trans h15
    have hb1' := h15.get hbb1 (fun h => h)
    have hb0' := h15.get hbb0 (fun h => h)
    refine kG_of ?_ ?_
    · refine kld_of (v := .slice va vn vc) hb1' rfl ?_
      exact ⟨rfl, rfl⟩
    refine ksem_append apComp (by omega) (hown.same h15) (Src.ofSlIs (hk := slComp_is.choose_spec) 1 (SlIs.blk hb15 rfl) rfl) ?_ ?_ ?_
    · have := flat_len Comp.cells 7 (fun _ => rfl) (comps8 i)
      have h3 : (comps8 i).length = i := by simp [comps8]
      have h4 : (comp8 i).cells.toArray.toList.length = 7 := rfl
      omega
    · have := flat_len Comp.cells 7 (fun _ => rfl) (comps8 i)
      have h3 : (comps8 i).length = i := by simp [comps8]
      have h4 : (comp8 i).cells.toArray.toList.length = 7 := rfl
      omega
    intro v' w17 ho hm17 hf17
    have hb1'' := hm17.get hb1' (fun h => by have := hf _ h; omega)
    have hb0'' := hm17.get hb0' (fun h => by have := hf _ h; have := hs2; omega)
    have hm17' : Same w w17 := Mod.after (hm.trans h15) hm17 (fun b hb => by have := hf b hb; have := h2.size; omega)
    have hvf : ∀ b, vblk v' b → w2.heap.size + 1 ≤ b := by
      intro b hb
      rcases hf17 b hb with h | h
      · exact hf b h
      · have := h15.size; omega
    obtain ⟨va', vn', vc', rfl, _, _⟩ := ho.is
    refine kfld_of ?_
    refine kst_of (vs := [.slice va' vn' vc']) hb1'' rfl rfl rfl (by simp) (by simp) fun w19 h19 hs19 hb19 => ?_
    have hb0''' := h19.get hb0'' (fun h => by omega)
    have ho' := ho.mod h19 (fun b hb h => by have := hvf b hb; omega)
    have hm19 : Same w w19 := Mod.after hm17' h19 (fun b hb => by have := h2.size; omega)
    unfold f27_2
    simp -dsimp [hadd]
    refine ⟨⟨i + 1, _, c, by omega, rfl, hb0''', hc, hb19, ?_, hm19, ?_, ?_⟩, by simp [RowKit.intOf]; omega⟩
    · rw [comps8_succ, List.flatMap_append]; simpa using ho'
    · rw [hz]; exact hvf
    · rw [hz]; have := hm17.size; have := h15.size; have := h19.size; omega
  · have : i = 8 := by omega
    subst this
    unfold f27_3
    refine kldN_of (cs := [.slice va vn vc, .slice none 0 0]) hbb1 (by simp) rfl (by omega) ?_
    refine kst_of (vs := [.slice va vn vc, .slice none 0 0]) hbb0 rfl rfl rfl (by simp [hc]) (by simp) fun w19 h19 hs19 hb19 => ?_
    have hset : setAll [.slice va vn vc, .slice none 0 0] c 0 = #[.slice va vn vc, .slice none 0 0] := by
      match c, hc with
      | ⟨[x, y]⟩, _ => rfl
    rw [hset] at hb19
    refine kldN_of (cs := [.slice va vn vc, .slice none 0 0]) hb19 (by simp) rfl (by omega) ?_
    have hl8 : l.length = 8 := by rw [hl]; simp [comps8]
    rw [← hl] at hs
    have hvn : vn = 8 := by
      have h1 := hs.1
      rw [flat_len Comp.cells 7 (fun _ => rfl), hl8] at h1
      omega
    subst hvn
    refine ⟨va, vc, by rw [hl8], by rw [hl8]; exact hs.mod h19 (fun b o e h => by have := hf b ⟨o, 8, vc, by rw [e]⟩; omega), Mod.after hm h19 (fun b hb => by omega)⟩
end Go.Proofs.YtcabkicjboedaaaDoor
