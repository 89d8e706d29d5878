import Derived.Test.YtcabkicjboedaaaDoorErr4
namespace Go.Proofs.YtcabkicjboedaaaDoor
open Go Go.Ev
set_option linter.unusedVariables false
set_option linter.unusedSimpArgs false
set_option maxRecDepth 100000

/-- Ways that can be joined. -/
def joinOk (ways : List ByteArray) : Prop := ways.length ≤ 1
theorem Join_spec {w : World} {a : Option Addr} {n c : Nat} {ways : List ByteArray} (hs : SlIs w a n 1 (ways.map .string)) (hk : joinOk ways) :
    Meets Tryd.prog 67 #[.slice a n c, .string ⟨#[47]⟩] w fun v w' => v = .string (joinP ways) ∧ Same w w' := by
  have hn : n = ways.length := by have := hs.1; simpa using this.symm
  subst hn
  refine f67_ok ?_
  unfold f67
  match ways, hs, hk with
  | [], hs, hk => simp -dsimp; exact ⟨rfl, Mod.refl _ _⟩
  | [x], hs, hk =>
    obtain ⟨b, o, c', t', f', rfl, hb, hcell⟩ := hs.at1 (i := 0) (by simp) (by simp)
    simp at hcell
    simp -dsimp [hb, hcell]
    exact ⟨rfl, Mod.refl _ _⟩
  | x :: y :: r, hs, hk => simp [joinOk] at hk

def leafCells (ways : List ByteArray) (ls : List Leaf) : List Value := ls.flatMap fun l => [.string (joinP (ways ++ l.1)), .int .i64 l.2]
theorem leafCells_len (ways : List ByteArray) (ls : List Leaf) : (leafCells ways ls).length = ls.length * 2 := flat_len _ 2 (fun _ => rfl) ls
theorem leafCells_append (ways : List ByteArray) (a b : List Leaf) : leafCells ways (a ++ b) = leafCells ways a ++ leafCells ways b := by simp [leafCells]
theorem leafCells_map (ways : List ByteArray) (wh : ByteArray) (ls : List Leaf) : leafCells ways (ls.map fun l => (wh :: l.1, l.2)) = leafCells (ways ++ [wh]) ls := by
  simp [leafCells, List.flatMap_map]
theorem leafCells_one (ways : List ByteArray) : ∀ ls : List Leaf, oneCells (leafCells ways ls) = true
  | [] => rfl
  | l :: ls => by
    have := leafCells_one ways ls
    rw [leafCells] at this ⊢
    rw [List.flatMap_cons]
    simpa [oneCells, Value.oneCell'] using this
theorem strs_one : ∀ ws : List ByteArray, oneCells (ws.map Value.string) = true
  | [] => rfl
  | x :: ws => by have := strs_one ws; simpa [oneCells, Value.oneCell'] using this
def WalkInv (w : World) (ways : List ByteArray) (zs : List (Value × List Leaf)) (x y : Value) (wr : World) : Prop :=
  ∃ i : Nat, i ≤ zs.length ∧ y = .int .i64 i ∧ Own wr x 2 (leafCells ways ((zs.take i).flatMap (·.2))) ∧ Same w wr ∧ ∀ b, vblk x b → w.heap.size ≤ b

set_option maxHeartbeats 4000000 in
theorem walk_spec {S : Nat → Addr} (d : Nat) : ∀ (w : World) (ways : List ByteArray) (a : Option Addr) (n c : Nat) (v : Value) (ls : List Leaf), LaidE S w → SlIs w a n 1 (ways.map .string) → ErrO S w d v ls → (∀ l ∈ ls, joinOk (ways ++ l.1)) →
    ls.length ≤ 1073741824 → ways.length + d ≤ 1073741824 →
    Meets Tryd.prog 28 #[.slice a n c, v] w fun v' w' => Own w' v' 2 (leafCells ways ls) ∧ Same w w' ∧ ∀ b, vblk v' b → w.heap.size ≤ b := by
  induction d using Nat.strongRecOn with
  | ind d ih =>
  intro w ways a n c v ls hL hs hv hj hlen hlen2
  refine f28_ok ?_
  unfold f28
  rcases hv with ⟨rfl, rfl⟩ | hv
  · rw [keq_nil_nil ifErr]
    simp -dsimp
    exact ⟨Own.nil _ _, Mod.refl _ _, fun b hb => by obtain ⟨_, _, _, h⟩ := hb; cases h⟩
  rcases hv.cases with ⟨k, k1, k2, rfl, rfl⟩ | ⟨d', hd', b', wh, u, ls', t'', f'', rfl, hb', hu, rfl⟩ | ⟨d', hd', b', a', n', c'', zs, t'', f'', rfl, hb', hs', hne, hz', rfl⟩
  · rw [errV, keq_if_nil ifErr]
    simp -dsimp
    rw [kta_other (by decide)]
    simp -dsimp
    rw [kta_other (by decide)]
    simp -dsimp
    unfold f28_4
    refine kcall_of (Join_spec hs (by simpa using hj ([], k) (by simp))) ?_
    rintro v w' ⟨rfl, hm⟩
    refine kcall_of (Number_spec (hL.same hm) k k1 k2) ?_
    rintro v w' ⟨rfl, rfl⟩
    simp -dsimp
    refine ⟨?_, hm.trans (same_alloc _ _), fun b hb => by rw [vblk_new hb]; exact hm.size⟩
    have : leafCells ways [([], k)] = [.string (joinP ways), .int .i64 k] := by simp [leafCells]
    rw [this]
    exact Own.new (arr := #[.string (joinP ways), .int .i64 k]) (by simp) (by simp [maxLen])
  · rw [keq_if_nil ifErr]
    simp -dsimp
    have hl : ways.length ≤ 1099511627776 := by omega
    have hd0 : Same w w.drew := (Mod.refl _ _).drew
    refine ⟨?_, ?_⟩
    · refine kcall_of (cloneS_spec (hs.same hd0) (strs_one ways) (by simpa using hl)) ?_
      rintro v6 w7 ⟨ho, hm, hf⟩
      have hm : Same w w7 := hd0.trans hm
      simp -dsimp [hm.get hb' (fun h => h), hb']
      refine ksem_append apStr (by omega) (ho.same (same_alloc _ _)) (Src.ofSlIs (hk := slStr_is.choose_spec) 1 (vs := [.string wh]) (SlIs.new (arr := #[.string wh]) (by simp)) rfl) (by simp; omega) (by simp; omega) ?_
      intro v12 w13 ho1 hm1 hf1
      have hm2 : Same w w13 := Mod.after (hm.trans (same_alloc _ _)) hm1 (fun b hb => hf b hb)
      refine kcall_of (unwrapB_spec (hm2.get hb' (fun h => h))) ?_
      rintro v w' ⟨rfl, rfl⟩
      obtain ⟨a4, n4, c4, rfl, hs4, hn4⟩ := ho1.is
      refine kcall_of (ih d' hd' _ (ways ++ [wh]) a4 n4 c4 _ ls' (hL.same hm2) (by simpa using hs4) (.inr (hu.same hm2)) (fun l hl => by have := hj (wh :: l.1, l.2) (List.mem_map.2 ⟨l, hl, rfl⟩); simpa using this) (by simpa using hlen) (by simp; omega)) ?_
      rintro v w' ⟨ho5, hm5, hf5⟩
      exact ⟨by rw [leafCells_map]; exact ho5, hm2.trans hm5, fun b hb => Nat.le_trans hm2.size (hf5 b hb)⟩
    · simp -dsimp [hb']
      refine kcall_of (cloneS_spec (hs.same (hd0.trans (same_alloc _ _))) (strs_one ways) (by simpa using hl)) ?_
      rintro v6 w7 ⟨ho, hm, hf⟩
      have hsn := (SlIs.new (w := w.drew) (t := 9) (arr := #[.string wh]) (n := 1) (sz := 1) (by simp)).same hm
      have hm : Same w w7 := (hd0.trans (same_alloc _ _)).trans hm
      have hsz : w.heap.size ≤ (w.drew.alloc (.cells #[.string wh] 9)).heap.size := (hd0.trans (same_alloc _ _)).size
      simp -dsimp [hm.get hb' (fun h => h)]
      refine ksem_append apStr (by omega) ho (Src.ofSlIs (hk := slStr_is.choose_spec) 1 (vs := [.string wh]) hsn rfl) (by simp; omega) (by simp; omega) ?_
      intro v12 w13 ho1 hm1 hf1
      have hm2 : Same w w13 := Mod.after hm hm1 (fun b hb => Nat.le_trans hsz (hf b hb))
      refine kcall_of (unwrapB_spec (hm2.get hb' (fun h => h))) ?_
      rintro v w' ⟨rfl, rfl⟩
      obtain ⟨a4, n4, c4, rfl, hs4, hn4⟩ := ho1.is
      refine kcall_of (ih d' hd' _ (ways ++ [wh]) a4 n4 c4 _ ls' (hL.same hm2) (by simpa using hs4) (.inr (hu.same hm2)) (fun l hl => by have := hj (wh :: l.1, l.2) (List.mem_map.2 ⟨l, hl, rfl⟩); simpa using this) (by simpa using hlen) (by simp; omega)) ?_
      rintro v w' ⟨ho5, hm5, hf5⟩
      exact ⟨by rw [leafCells_map]; exact ho5, hm2.trans hm5, fun b hb => Nat.le_trans hm2.size (hf5 b hb)⟩
  · rw [keq_if_nil ifErr]
    simp -dsimp
    rw [kta_other (by decide)]
    simp -dsimp
    have hl2 := errs_len hz'
    refine kcall_of (unwrapS_spec hb' hs' (errs_one hz') (by simp; omega)) ?_
    rintro v12 w13 ⟨ho, hm1, hf1⟩
    obtain ⟨a3, n3, c3, rfl, hs3, hn3⟩ := ho.is
    have hn3 : n3 = zs.length := by rw [hn3 rfl, List.length_map]
    subst hn3
    simp -dsimp
    refine kL_of (WalkInv w13 ways zs) (fun _ y _ => zs.length - (RowKit.intOf y).toNat) ⟨⟨0, by omega, rfl, Own.nil _ _, Mod.refl _ _, fun b hb => by obtain ⟨_, _, _, h⟩ := hb; cases h⟩, ?_⟩
    rintro x y wr ⟨i, hi, rfl, hown, hm, hf⟩
    unfold f28_0
    simp -dsimp
    refine kIf_dec (fun hlt => ?_) (fun hge => ?_)
    · have hlt : i < zs.length := by omega
      obtain ⟨b, o, c', t', f', rfl, hb, hcell⟩ := (hs3.same hm).at1 hlt (by simpa using hlt)
      simp only [List.getElem_map] at hcell
      have htk : (zs.take (i + 1)).flatMap (·.2) = (zs.take i).flatMap (·.2) ++ zs[i].2 := by rw [List.take_succ_eq_append_getElem hlt, List.flatMap_append]; simp
      have hmem : zs[i] ∈ zs := List.getElem_mem hlt
      have hcat : zs.flatMap (·.2) = (zs.take (i + 1)).flatMap (·.2) ++ (zs.drop (i + 1)).flatMap (·.2) := by rw [← List.flatMap_append, List.take_append_drop]
      have hp := hz' zs[i] hmem
      have hjp : ∀ l ∈ zs[i].2, joinOk (ways ++ l.1) := fun l hl => hj l (List.mem_flatMap.2 ⟨_, hmem, hl⟩)
      have hos : o + i < c'.size := (Array.getElem?_eq_some_iff.1 hcell).1
      have hadd := i64_succ (i := i) (by omega)
      have hfle : ((zs.take i).flatMap (·.2)).length + zs[i].2.length ≤ 1073741824 := by
        rw [hcat, htk, List.length_append, List.length_append] at hlen; omega
      generalize zs[i] = p at *
      obtain ⟨pv, pl⟩ := p
      simp only at hp hcell htk hfle hjp
      unfold f28_1
      simp -dsimp [hlt, hb, hcell]
      have hm' : Same w wr := hm1.trans hm
      refine kcall_of (ih d' hd' wr ways a n c pv pl (hL.same hm') (hs.same hm') (.inr (hp.same hm')) hjp (by omega) (by omega)) ?_
      rintro v w' ⟨ho5, hm5, hf5⟩
      obtain ⟨a5, n5, c5, rfl, hs5, _⟩ := ho5.is
      refine ksem_append apLeaf (by omega) (hown.same hm5) (Src.ofSlIs (hk := slLeaf_is.choose_spec) c5 hs5 (leafCells_one _ _)) (by simp only [leafCells_len]; omega) (by simp only [leafCells_len]; omega) ?_
      intro v12 w14 ho6 hm6 hf6
      unfold f28_2
      simp -dsimp [hadd]
      refine ⟨⟨i + 1, by omega, rfl, by rw [htk, leafCells_append]; exact ho6, Mod.after (hm.trans hm5) hm6 hf, fun b hb => ?_⟩, by simp [RowKit.intOf]; omega⟩
      rcases hf6 b hb with h | h
      · exact hf b h
      · exact Nat.le_trans (hm.trans hm5).size h
    · have : i = zs.length := by omega
      subst this
      unfold f28_3
      rw [List.take_length] at hown
      exact ⟨hown, hm1.trans hm, fun b hb => Nat.le_trans hm1.size (hf b hb)⟩

theorem Leaves_spec {S : Nat → Addr} {w : World} {d : Nat} {v : Value} {ls : List Leaf} (hL : LaidE S w) (hv : ErrO S w d v ls) (hj : ∀ l ∈ ls, joinOk l.1) (hlen : ls.length ≤ 1073741824) (hd : d ≤ 1073741824) :
    Meets Tryd.prog 9 #[v] w fun v' w' => Own w' v' 2 (leafCells [] ls) ∧ Same w w' ∧ ∀ b, vblk v' b → w.heap.size ≤ b := by
  refine f9_ok ?_
  unfold f9
  refine kcall_of (walk_spec d w [] none 0 0 v ls hL (SlIs.nil _ _ _) hv (by simpa using hj) hlen (by simpa using hd)) ?_
  rintro v w' h
  exact h
end Go.Proofs.YtcabkicjboedaaaDoor
