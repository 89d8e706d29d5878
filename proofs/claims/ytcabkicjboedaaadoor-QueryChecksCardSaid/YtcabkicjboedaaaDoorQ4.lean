import Derived.Test.YtcabkicjboedaaaDoorQ3
namespace Go.Proofs.YtcabkicjboedaaaDoor
open Go Go.Ev
set_option linter.unusedVariables false
set_option linter.unusedSimpArgs false
set_option maxRecDepth 100000

/-! ### The entities of a statement -/
structure Being where
  mask : Nat
  ticks : List Int
  named : Bool
def Being.ok (x : Being) : Prop := x.mask < 4294967296 ∧ x.ticks.length = 8 ∧ ∀ t ∈ x.ticks, I64 t
def Being.val (x : Being) : Value := .agg (msk x.mask :: (x.ticks.map (Value.int .i64) ++ [.bool x.named])).toArray
def Being.has (x : Being) (i : Nat) : Bool := x.mask / 2 ^ i % 2 == 1
def Being.part (x : Being) (i : Nat) : Part := ⟨i, 0, 0, 0, 0, x.ticks.getD i 0⟩
def Being.parts (x : Being) (n : Nat) : List Part := ((List.range n).filter x.has).map x.part
theorem Being.parts_succ (x : Being) (n : Nat) : x.parts (n + 1) = if x.has n then x.parts n ++ [x.part n] else x.parts n := by
  unfold Being.parts
  rw [List.range_succ, List.filter_append, List.map_append]
  cases h : x.has n <;> simp [h]
theorem Being.parts_len (x : Being) (n : Nat) : (x.parts n).length ≤ n := by
  unfold Being.parts
  rw [List.length_map]
  exact Nat.le_trans (List.length_filter_le _ _) (by simp)
theorem apPart : appT Tryd.prog 31 6 48 = true := by kernel_rfl
theorem slPart_is : ∃ e, Tryd.prog.underlying 31 = some (.slice e) := slT_of (by kernel_rfl)
def PartsInv (x : Being) (w w0 : World) (b1 : Nat) (c : Array Value) (v y : Value) (wr : World) : Prop :=
  ∃ i : Nat, i ≤ 8 ∧ y = .int .i64 i ∧ blk wr b1 = some (.cells c 48) ∧ Own wr v 6 ((x.parts i).flatMap Part.cells) ∧ Same w wr ∧ (∀ b, vblk v b → w0.heap.size ≤ b) ∧ w0.heap.size ≤ wr.heap.size
theorem shr_u32 {m i : Nat} (h : m < 4294967296) (hi : i ≤ 32) : ishr .u32 (m : Int) (i : Int) = ((m / 2 ^ i : Nat) : Int) := by
  show (m : Int).fdiv (2 ^ (min i 32)) = _
  rw [Nat.min_eq_left hi, Int.fdiv_eq_ediv_of_nonneg _ (by exact Int.pow_nonneg (by omega))]
  simp

set_option maxHeartbeats 1000000 in
theorem parts_spec (x : Being) (hx : x.ok) (w : World) : Meets Tryd.prog 14 #[x.val] w fun v w' => Own w' v 6 ((x.parts 8).flatMap Part.cells) ∧ Same w w' := by
  obtain ⟨hm1, ht, hti⟩ := hx
  refine f14_ok ?_
  unfold f14
  refine knew_of fun w2 h2 hs2 hb1 => ?_
  refine kbldS_of (cs := []) rfl fun w4 h4 hs4 hb4 => ?_
  have hb1 := h4.get hb1 (fun h => h)
  refine kL_of (PartsInv x w w2 w.heap.size (Value.cells x.val)) (fun _ y _ => 8 - (RowKit.intOf y).toNat) ⟨⟨0, by omega, rfl, hb1, ?_, h2.trans h4, fun b hb => (by rw [vblk_new hb]; exact Nat.le_refl _), h4.size⟩, ?_⟩
  · exact Own.blk (arr := #[]) (n := 0) hb4 rfl (by simp [maxLen])
  rintro v y wr ⟨i, hi, rfl, hbb, hown, hm, hf, hsz⟩
  unfold f14_0
  simp -dsimp only [kint_lss, kB_bool]
  refine kIf_dec (fun hlt => ?_) (fun hge => ?_)
  · have hlt : i < 8 := by omega
    have hadd := i64_succ (i := i) (by omega)
    unfold f14_1
    refine kfld_of ?_
    refine kld_of (v := msk x.mask) hbb rfl ?_
    simp -dsimp only [msk, kint_shr]
    refine kG_of (by omega) ?_
    rw [shr_u32 hm1 (by omega)]
    simp -dsimp only [kint_rem]
    refine kG_of (by omega) ?_
    have hrem : ((x.mask / 2 ^ i : Nat) : Int).tmod 2 = ((x.mask / 2 ^ i % 2 : Nat) : Int) := by rw [Int.tmod_eq_emod_of_nonneg (Int.natCast_nonneg _)]; simp
    rw [hrem]
    simp -dsimp only [kint_eql, kB_bool]
    refine kIf_dec (fun h => ?_) (fun h => ?_)
    · have hhas : x.has i = true := by unfold Being.has; simp only [beq_iff_eq]; omega
      refine kfld_of ?_
      simp -dsimp only [kix_array]
      refine kG_of (by omega) ?_
      have e1 : (i : Int).toNat * 1 = i := by omega
      rw [add_mk, e1]
      have hil : i < x.ticks.length := by omega
      refine kld_of (v := .int .i64 (x.ticks.getD i 0)) hbb ?_ ?_
      · rw [show 0 + 1 + i = i + 1 by omega]
        simp [Being.val, Value.cells, hil, List.getElem?_append]
      refine kbld_of (cs := (x.part i).cells) rfl ?_
      refine kbldS_of (cs := (x.part i).cells) rfl fun w16 h16 hs16 hb16 => ?_
      have hlen := x.parts_len i
      have hfl := flat_len Part.cells 6 (fun _ => rfl) (x.parts i)
      have h6 : ((x.part i).cells.toArray.toList).length = 6 := rfl
      refine ksem_append apPart (by omega) (hown.same h16) (Src.ofSlIs (hk := slPart_is.choose_spec) 1 (SlIs.blk hb16 rfl) rfl) (by omega) (by omega) ?_
      intro v' w17 ho hm17 hf17
      have hvlt : ∀ b, vblk v b → b ≠ w.heap.size := fun b hb e => by have := hf b hb; omega
      unfold f14_2
      simp -dsimp only [kint_add, hadd]
      refine ⟨⟨i + 1, by omega, rfl, hm17.get (h16.get hbb (fun h => h)) (fun h => hvlt _ h rfl), ?_, Mod.after (hm.trans h16) hm17 (fun b hb => by have := hf b hb; have := h2.size; omega), fun b hb => ?_, ?_⟩, by simp [RowKit.intOf]; omega⟩
      · rw [Being.parts_succ, hhas, if_pos rfl, List.flatMap_append]; simpa using ho
      · rcases hf17 b hb with h | h
        · exact hf b h
        · have := h16.size; omega
      · have := hm17.size; have := h16.size; omega
    · have hhas : x.has i = false := by unfold Being.has; simp only [beq_eq_false_iff_ne]; omega
      unfold f14_2
      simp -dsimp only [kint_add, hadd]
      refine ⟨⟨i + 1, by omega, rfl, hbb, ?_, hm, hf, hsz⟩, by simp [RowKit.intOf]; omega⟩
      rw [Being.parts_succ, hhas]; exact hown
  · have : i = 8 := by omega
    subst this
    unfold f14_3
    exact ⟨hown, hm⟩
end Go.Proofs.YtcabkicjboedaaaDoor
