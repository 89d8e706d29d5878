import Derived.Test.YtcabkicjboedaaaDoorErr3
namespace Go.Proofs.YtcabkicjboedaaaDoor
open Go Go.Ev
set_option linter.unusedVariables false
set_option linter.unusedSimpArgs false
set_option maxRecDepth 100000

theorem SlIs.new {w : World} {t : TypeId} {arr : Array Value} {n sz : Nat} (h : arr.size = n * sz) : SlIs (w.alloc (.cells arr t)) (some ⟨w.heap.size, 0, none⟩) n sz arr.toList :=
  ⟨by simpa using h, .inr ⟨_, 0, arr, t, _, rfl, alloc_heap_new _ _, by rw [List.drop_zero, ← h, ← Array.length_toList, List.take_length]⟩⟩
theorem slErr_is : ∃ e, Tryd.prog.underlying 125 = some (.slice e) := slT_of (by kernel_rfl)
theorem slStr_is : ∃ e, Tryd.prog.underlying 119 = some (.slice e) := slT_of (by kernel_rfl)
theorem slLeaf_is : ∃ e, Tryd.prog.underlying 33 = some (.slice e) := slT_of (by kernel_rfl)
theorem errs_one {S : Nat → Addr} {w : World} {d : Nat} : ∀ {zs : List (Value × List Leaf)}, (∀ p ∈ zs, ErrIs S w d p.1 p.2) → oneCells (zs.map (·.1)) = true
  | [], _ => rfl
  | p :: zs, h => by
    obtain ⟨t, u, e⟩ := (h p (by simp)).one
    have := errs_one (zs := zs) fun q hq => h q (by simp [hq])
    simp [oneCells, e, Value.oneCell', this]
theorem errs_len {S : Nat → Addr} {w : World} {d : Nat} : ∀ {zs : List (Value × List Leaf)}, (∀ p ∈ zs, ErrIs S w d p.1 p.2) → zs.length ≤ (zs.flatMap (·.2)).length
  | [], _ => by simp
  | p :: zs, h => by
    have h1 := (h p (by simp)).pos
    have := errs_len (zs := zs) fun q hq => h q (by simp [hq])
    rw [List.flatMap_cons, List.length_append, List.length_cons]; omega
theorem i64_succ {i : Nat} (h : i < 4611686018427387904) : IntKind.i64.wrap ((i : Int) + 1) = ((i + 1 : Nat) : Int) := by rw [wrap_i64 (by omega) (by omega)]; simp

def FlatInv (S : Nat → Addr) (w0 w : World) (d : Nat) (zs : List (Value × List Leaf)) (x y : Value) (wr : World) : Prop := ∃ (i : Nat) (zs' : List (Value × List Leaf)), i ≤ zs.length ∧ y = .int .i64 i ∧ Own wr x 1 (zs'.map (·.1)) ∧ (∀ p ∈ zs', ErrIs S w0 d p.1 p.2) ∧ zs'.flatMap (·.2) = (zs.take i).flatMap (·.2) ∧ Same w wr ∧ ∀ b, vblk x b → w.heap.size ≤ b
theorem flat_spec {S : Nat → Addr} {w0 : World} (d : Nat) : ∀ (w : World) (zs : List (Value × List Leaf)) (a : Option Addr) (n c : Nat), Same w0 w → SlIs w a n 1 (zs.map (·.1)) → (∀ p ∈ zs, ErrO S w0 d p.1 p.2) →
    (zs.flatMap (·.2)).length ≤ 1099511627776 → zs.length ≤ 1099511627776 →
    Meets Tryd.prog 70 #[.slice a n c] w fun v w' => ∃ zs' : List (Value × List Leaf), Own w' v 1 (zs'.map (·.1)) ∧ (∀ p ∈ zs', ErrIs S w0 d p.1 p.2) ∧ zs'.flatMap (·.2) = zs.flatMap (·.2) ∧ Same w w' ∧ ∀ b, vblk v b → w.heap.size ≤ b := by
  induction d using Nat.strongRecOn with
  | ind d ih =>
  intro w zs a n c h0 hs hz hlen hlen2
  have hn : n = zs.length := by have := hs.1; simpa using this.symm
  subst hn
  refine f70_ok ?_
  unfold f70
  simp -dsimp
  refine kL_of (FlatInv S w0 w d zs)
    (fun _ y _ => zs.length - (RowKit.intOf y).toNat) ⟨⟨0, [], by omega, rfl, Own.nil _ _, by simp, by simp, Mod.refl _ _, fun b hb => by obtain ⟨_, _, _, h⟩ := hb; cases h⟩, ?_⟩
  rintro x y wr ⟨i, zs', hi, rfl, hown, hzs', hfl, hm, hf⟩
  unfold f70_0
  simp -dsimp
  refine kIf_dec (fun hlt => ?_) (fun hge => ?_)
  · have hlt : i < zs.length := by omega
    obtain ⟨b, o, c', t', f', rfl, hb, hcell⟩ := (hs.same hm).at1 hlt (by simpa using hlt)
    have hp := hz zs[i] (List.getElem_mem hlt)
    simp only [List.getElem_map] at hcell
    have htk : (zs.take (i + 1)).flatMap (·.2) = (zs.take i).flatMap (·.2) ++ zs[i].2 := by rw [List.take_succ_eq_append_getElem hlt, List.flatMap_append]; simp
    have hfle : ((zs.take (i + 1)).flatMap (·.2)).length ≤ 1099511627776 := by
      have : zs = zs.take (i + 1) ++ zs.drop (i + 1) := (List.take_append_drop _ _).symm
      rw [this, List.flatMap_append, List.length_append] at hlen
      omega
    rw [htk, List.length_append] at hfle
    have hl1 := errs_len hzs'
    rw [hfl] at hl1
    have hos : o + i < c'.size := (Array.getElem?_eq_some_iff.1 hcell).1
    have hadd := i64_succ (i := i) (by omega)
    generalize zs[i] = p at *
    obtain ⟨pv, pl⟩ := p
    simp only at hp hcell htk hfle
    unfold f70_1
    simp -dsimp [hlt, hb, hcell]
    rcases hp with ⟨rfl, rfl⟩ | hp
    · rw [keq_nil_nil ifErr]
      simp -dsimp
      unfold f70_2
      simp -dsimp [hadd]
      exact ⟨⟨i + 1, zs', by omega, rfl, hown, hzs', by rw [htk, hfl]; simp, hm, hf⟩, by simp [RowKit.intOf]; omega⟩
    · have hap : ∀ (x2 : Value) (w2 : World) (zq : List (Value × List Leaf)), Own w2 x2 1 ((zs' ++ zq).map (·.1)) → (∀ p ∈ zq, ErrIs S w0 d p.1 p.2) → zq.flatMap (·.2) = pl → Same w w2 → (∀ b, vblk x2 b → w.heap.size ≤ b) →
          FlatInv S w0 w d zs x2 (.int .i64 ((i + 1 : Nat) : Int)) w2 := by
        intro x2 w2 zq h1 h2 h3 h4 h5
        refine ⟨i + 1, zs' ++ zq, by omega, rfl, h1, fun p hp => ?_, ?_, h4, h5⟩
        · rcases List.mem_append.1 hp with hp | hp
          · exact hzs' p hp
          · exact h2 p hp
        · rw [List.flatMap_append, hfl, htk, h3]
      have plain : ∀ t u, pv = .iface t u → t ≠ 124 → ksem Tryd.prog (Builtin.append_ #[125, 125] 0 #[x, .slice (some ⟨wr.heap.size, 0, none⟩) 1 1]) (wr.alloc (.cells #[pv] 36)) fun v20 w21 =>
          f70_2 v20 (.slice (some ⟨b, o, none⟩) zs.length c) (.int .i64 zs.length) (.int .i64 i) (fun y2 y10 w2 => FlatInv S w0 w d zs y2 y10 w2 ∧ zs.length - (RowKit.intOf y10).toNat < zs.length - (RowKit.intOf (.int .i64 i)).toNat) (fun v w' => ∃ zs' : List (Value × List Leaf), Own w' v 1 (zs'.map (·.1)) ∧ (∀ p ∈ zs', ErrIs S w0 d p.1 p.2) ∧ zs'.flatMap (·.2) = zs.flatMap (·.2) ∧ Same w w' ∧ ∀ b, vblk v b → w.heap.size ≤ b) w21 := by
        intro t u e _
        refine ksem_append apErr (by omega) (hown.same (same_alloc _ _)) (Src.ofSlIs (hk := slErr_is.choose_spec) 1 (vs := [pv]) (SlIs.new (arr := #[pv]) (by simp)) (by simp [oneCells, e, Value.oneCell'])) (by simp; omega) (by simp; omega) ?_
        intro v' w' ho hm' hf'
        unfold f70_2
        simp -dsimp [hadd]
        have hsz : wr.heap.size ≤ (wr.alloc (.cells #[pv] 36)).heap.size := (same_alloc _ _).size
        refine ⟨hap v' w' [(pv, pl)] (by simpa using ho) (by simpa using hp) (by simp) (Mod.after (hm.trans (same_alloc _ _)) hm' hf) (fun b hb => ?_), by simp [RowKit.intOf]; omega⟩
        rcases hf' b hb with h | h
        · exact hf b h
        · exact Nat.le_trans hm.size (Nat.le_trans hsz h)
      rcases hp.cases with ⟨k, k1, k2, rfl, rfl⟩ | ⟨d', hd', b', wh, u, ls', t'', f'', rfl, hb', hu, rfl⟩ | ⟨d', hd', b', a', n', c'', zs2, t'', f'', rfl, hb', hs', hne, hz', rfl⟩
      · rw [errV, keq_if_nil ifErr]
        simp -dsimp
        rw [kta_other (by decide)]
        simp -dsimp
        exact plain _ _ rfl (by decide)
      · rw [keq_if_nil ifErr]
        simp -dsimp
        rw [kta_other (by decide)]
        simp -dsimp
        exact plain _ _ rfl (by decide)
      · rw [keq_if_nil ifErr]
        simp -dsimp
        have hl2 := errs_len hz'
        have hm0 : Same w0 wr := h0.trans hm
        refine kcall_of (unwrapS_spec (hm0.get hb' (fun h => h)) (hs'.same hm0) (errs_one hz') (by simp; omega)) ?_
        rintro v12 w13 ⟨ho, hm1, hf1⟩
        obtain ⟨a3, n3, c3, rfl, hs3, hn3⟩ := ho.is
        refine kcall_of (ih d' hd' w13 zs2 a3 n3 c3 (hm0.trans hm1) hs3 (fun p hp => .inr (hz' p hp)) (by omega) (by omega)) ?_
        rintro v14 w15 ⟨zq, ho2, hzq, hfl2, hm2, hf2⟩
        obtain ⟨a4, n4, c4, rfl, hs4, hn4⟩ := ho2.is
        have hl4 := errs_len hzq
        rw [hfl2] at hl4
        refine ksem_append apErr (by omega) (hown.same (hm1.trans hm2)) (Src.ofSlIs (hk := slErr_is.choose_spec) c4 hs4 (errs_one hzq)) (by simp; omega) (by simp; omega) ?_
        intro v' w' ho hm' hf'
        unfold f70_2
        simp -dsimp [hadd]
        refine ⟨hap v' w' zq (by simpa using ho) (fun p hp => (hzq p hp).up (by omega)) hfl2 (Mod.after (hm.trans (hm1.trans hm2)) hm' hf) (fun b hb => ?_), by simp [RowKit.intOf]; omega⟩
        rcases hf' b hb with h | h
        · exact hf b h
        · exact Nat.le_trans (hm.trans (hm1.trans hm2)).size h
  · have : i = zs.length := by omega
    subst this
    unfold f70_3
    exact ⟨zs', hown, hzs', by rw [hfl, List.take_length], hm, hf⟩

theorem All_spec {S : Nat → Addr} {w : World} {d : Nat} {zs : List (Value × List Leaf)} {a : Option Addr} {n c : Nat} (hs : SlIs w a n 1 (zs.map (·.1))) (hz : ∀ p ∈ zs, ErrO S w d p.1 p.2) (hlen : (zs.flatMap (·.2)).length ≤ 1099511627776) (hlen2 : zs.length ≤ 1099511627776) :
    Meets Tryd.prog 30 #[.slice a n c] w fun v w' => ErrO S w' (d + 1) v (zs.flatMap (·.2)) ∧ Same w w' := by
  refine f30_ok ?_
  unfold f30
  refine kcall_of (flat_spec (w0 := w) d w zs a n c (Mod.refl _ _) hs hz hlen hlen2) ?_
  rintro v w' ⟨zs', ho, hz', hfl, hm, hf⟩
  obtain ⟨a1, n1, c1, rfl, hs1, hn1⟩ := ho.is
  have hn1 : n1 = zs'.length := by rw [hn1 rfl, List.length_map]
  subst hn1
  simp -dsimp
  refine kIf_dec (fun h => ?_) (fun h => ?_)
  · have : zs' = [] := by simpa using h
    subst this
    exact ⟨.inl ⟨rfl, by rw [← hfl]; rfl⟩, hm⟩
  · simp -dsimp
    refine kIf_dec (fun h1 => ?_) (fun h1 => ?_)
    · obtain ⟨p, rfl⟩ : ∃ p, zs' = [p] := List.length_eq_one_iff.1 (by omega)
      obtain ⟨b, o, c', t', f', rfl, hb, hcell⟩ := hs1.at1 (i := 0) (by simp) (by simp)
      simp at hcell
      simp -dsimp [hb, hcell]
      have := hz' p (by simp)
      rw [← hfl]
      have e : [p].flatMap (·.2) = p.2 := by simp
      rw [e]
      exact ⟨.inr ((this.same hm).up (by omega)), hm⟩
    · unfold f30_0
      simp -dsimp
      have hs' : ∀ o, Same w' (w'.alloc o) := fun o => same_alloc _ _
      refine ⟨.inr (.inr (.inr ⟨_, a1, _, c1, zs', _, _, rfl, alloc_heap_new _ _, hs1.same (hs' _), fun e => h (by simp [e]), fun p hp => (hz' p hp).same (hm.trans (hs' _)), hfl.symm⟩)), hm.trans (hs' _)⟩
end Go.Proofs.YtcabkicjboedaaaDoor
