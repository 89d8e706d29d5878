import Derived.Test.YtcabkicjboedaaaDoorErr2
namespace Go.Proofs.YtcabkicjboedaaaDoor
open Go Go.Ev
set_option linter.unusedVariables false
set_option linter.unusedSimpArgs false
set_option maxRecDepth 100000

theorem Mod.after {fp : Nat → Prop} {a b c : World} (h : Same a b) (k : Mod fp b c) (hf : ∀ b, fp b → a.heap.size ≤ b) : Same a c := h.trans' (k.mono fun i _ hi => .inr (hf i hi))
theorem vblk_new {B o n c b : Nat} (h : vblk (.slice (some ⟨B, o, none⟩) n c) b) : b = B := by
  obtain ⟨_, _, _, e⟩ := h; cases e; rfl
theorem same_alloc (w : World) (o : Obj) : Same w (w.alloc o) := (Mod.refl _ _).alloc o

theorem cloneE_spec {w : World} {a : Option Addr} {n c : Nat} {us : List Value} (hs : SlIs w a n 1 us) (h1 : oneCells us = true) (hn : us.length ≤ 1099511627776) :
    Meets Tryd.prog 89 #[.slice a n c] w fun v w' => Own w' v 1 us ∧ Same w w' ∧ (∀ b, vblk v b → w.heap.size ≤ b) := by
  refine f89_ok ?_
  unfold f89
  rw [keq_sl_nil slErr]
  simp -dsimp
  cases a with
  | none =>
    have : n = 0 := by rcases hs.2 with h | ⟨_, _, _, _, _, h, _⟩; exact h; cases h
    subst this
    have : us = [] := by simpa using hs.1
    subst this
    simp -dsimp
    exact ⟨Own.nil _ _, Mod.refl _ _, fun b hb => by obtain ⟨_, _, _, h⟩ := hb; cases h⟩
  | some a =>
    simp -dsimp
    unfold f89_0
    simp -dsimp
    refine ksem_append apErr (by omega) (vs := []) (Own.new (arr := #[]) (n := 0) (by simp) (by simp [maxLen])) (Src.ofSlIs (hk := (slT_of (P := Tryd.prog) (t := 125) (by kernel_rfl)).choose_spec) c (hs.same (same_alloc _ _)) h1) (by simpa using by omega) (by simpa using by omega) ?_
    intro v' w' ho hm hf
    refine ⟨by simpa using ho, Mod.after (same_alloc _ _) hm (fun b hb => by rw [vblk_new hb]; exact Nat.le_refl _), fun b hb => ?_⟩
    rcases hf b hb with h | h
    · rw [vblk_new h]; exact Nat.le_refl _
    · simp at h; omega

theorem cloneS_spec {w : World} {a : Option Addr} {n c : Nat} {us : List Value} (hs : SlIs w a n 1 us) (h1 : oneCells us = true) (hn : us.length ≤ 1099511627776) :
    Meets Tryd.prog 64 #[.slice a n c] w fun v w' => Own w' v 1 us ∧ Same w w' ∧ (∀ b, vblk v b → w.heap.size ≤ b) := by
  refine f64_ok ?_
  unfold f64
  rw [keq_sl_nil slStr]
  simp -dsimp
  cases a with
  | none =>
    have : n = 0 := by rcases hs.2 with h | ⟨_, _, _, _, _, h, _⟩; exact h; cases h
    subst this
    have : us = [] := by simpa using hs.1
    subst this
    simp -dsimp
    exact ⟨Own.nil _ _, Mod.refl _ _, fun b hb => by obtain ⟨_, _, _, h⟩ := hb; cases h⟩
  | some a =>
    simp -dsimp
    unfold f64_0
    simp -dsimp
    refine ksem_append apStr (by omega) (vs := []) (Own.new (arr := #[]) (n := 0) (by simp) (by simp [maxLen])) (Src.ofSlIs (hk := (slT_of (P := Tryd.prog) (t := 119) (by kernel_rfl)).choose_spec) c (hs.same (same_alloc _ _)) h1) (by simpa using by omega) (by simpa using by omega) ?_
    intro v' w' ho hm hf
    refine ⟨by simpa using ho, Mod.after (same_alloc _ _) hm (fun b hb => by rw [vblk_new hb]; exact Nat.le_refl _), fun b hb => ?_⟩
    rcases hf b hb with h | h
    · rw [vblk_new h]; exact Nat.le_refl _
    · simp at h; omega

theorem unwrapB_spec {w : World} {b : Nat} {wh u : Value} {t : TypeId} {f : Nat × Nat} (hb : blk w b = some (.cells #[wh, u] t f)) : Meets Tryd.prog 65 #[.pointer (some ⟨b, 0, none⟩)] w fun v w' => v = u ∧ w' = w := by
  refine f65_ok ?_
  unfold f65
  rw [keq_ptr_nil ptBla]
  simp -dsimp
  unfold f65_0
  simp -dsimp [hb]

theorem unwrapS_spec {w : World} {b : Nat} {t : TypeId} {f : Nat × Nat} {a : Option Addr} {n c : Nat} {us : List Value} (hb : blk w b = some (.cells #[.slice a n c] t f)) (hs : SlIs w a n 1 us) (h1 : oneCells us = true) (hn : us.length ≤ 1099511627776) :
    Meets Tryd.prog 66 #[.pointer (some ⟨b, 0, none⟩)] w fun v w' => Own w' v 1 us ∧ Same w w' ∧ (∀ b, vblk v b → w.heap.size ≤ b) := by
  refine f66_ok ?_
  unfold f66
  rw [keq_ptr_nil ptSev]
  simp -dsimp
  unfold f66_0
  simp -dsimp [hb]
  refine kcall_of (cloneE_spec hs h1 hn) ?_
  rintro v w' h
  simpa using h
end Go.Proofs.YtcabkicjboedaaaDoor
