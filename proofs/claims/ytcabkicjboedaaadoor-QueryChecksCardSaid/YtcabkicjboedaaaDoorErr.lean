import Derived.Test.YtcabkicjboedaaaDoorEvO
import Derived.Test.YtcabkicjboedaaaDoorGenErr
namespace Go.Proofs.YtcabkicjboedaaaDoor
open Go Go.Ev
set_option linter.unusedVariables false
set_option linter.unusedSimpArgs false
set_option maxRecDepth 100000

/-! ### Errors -/
def tErr : Nat := 36
def tSen : Nat := 192
def tBla : Nat := 120
def tSev : Nat := 124
theorem ifErr : isIfT Tryd.prog 36 = true := by kernel_rfl
theorem cmpSen : cmpT Tryd.prog 192 = true := by kernel_rfl
theorem taIs : taB Tryd.prog 192 145 = some false := by kernel_rfl
theorem taUn : taB Tryd.prog 192 148 = some false := by kernel_rfl
theorem taUs : taB Tryd.prog 192 149 = some false := by kernel_rfl
theorem zIs : (Tryd.prog.info? 145).map (·.zero) = some (some .nilIface) := by kernel_rfl
theorem zUn : (Tryd.prog.info? 148).map (·.zero) = some (some .nilIface) := by kernel_rfl
theorem zUs : (Tryd.prog.info? 149).map (·.zero) = some (some .nilIface) := by kernel_rfl
theorem ptBla : isPtrT Tryd.prog 120 = true := by kernel_rfl
theorem ptSev : isPtrT Tryd.prog 124 = true := by kernel_rfl
theorem slErr : isSlT Tryd.prog 125 = true := by kernel_rfl
theorem slStr : isSlT Tryd.prog 119 = true := by kernel_rfl
theorem apErr : appT Tryd.prog 125 1 16 = true := by kernel_rfl
theorem apStr : appT Tryd.prog 119 1 16 = true := by kernel_rfl
theorem apLeaf : appT Tryd.prog 33 2 24 = true := by kernel_rfl

/-- The variable of an error's number. -/
def gErr : Nat → Nat
  | 1 => 1 | 2 => 4 | 3 => 0 | 4 => 5 | 5 => 7 | 6 => 8 | 7 => 3 | 8 => 9 | 9 => 2
  | 10 => 10 | 11 => 11 | 12 => 12 | 13 => 13 | 14 => 14 | 15 => 15 | 16 => 16 | 17 => 17 | _ => 18
def errV (S : Nat → Addr) (k : Nat) : Value := .iface 192 (.pointer (some (S k)))
/-- The sentinels lie where they were laid. -/
structure LaidE (S : Nat → Addr) (w : World) : Prop where
  glob : ∀ k, 1 ≤ k → k ≤ 18 → ∃ c t f, blk w (gErr k) = some (.cells c t f) ∧ c[0]? = some (errV S k)
  ne : ∀ j k, 1 ≤ j → j ≤ 18 → 1 ≤ k → k ≤ 18 → j ≠ k → S j ≠ S k
  live : ∀ k, 1 ≤ k → k ≤ 18 → ∃ c t, blk w (S k).block = some (.cells c t (0, 0))
theorem LaidE.mod {fp : Nat → Prop} {S : Nat → Addr} {w w' : World} (h : LaidE S w) (hm : Mod fp w w') (hf : ∀ k, 1 ≤ k → k ≤ 18 → ¬ fp (gErr k) ∧ ¬ fp (S k).block) : LaidE S w' where
  glob k h1 h2 := by
    obtain ⟨c, t, f, hb, hc⟩ := h.glob k h1 h2
    exact ⟨c, t, f, hm.get hb (hf k h1 h2).1, hc⟩
  ne := h.ne
  live k h1 h2 := by
    obtain ⟨c, t, hb⟩ := h.live k h1 h2
    exact ⟨c, t, hm.get hb (hf k h1 h2).2⟩
theorem LaidE.same {S : Nat → Addr} {w w' : World} (h : LaidE S w) (hm : Same w w') : LaidE S w' := h.mod hm fun _ _ _ => ⟨fun h => h, fun h => h⟩
/-- A sentinel's variable, read. -/
theorem LaidE.read {S : Nat → Addr} {w : World} (h : LaidE S w) {k g : Nat} (h1 : 1 ≤ k) (h2 : k ≤ 18) (hg : gErr k = g) : cellO (blk w g) 0 = some (errV S k) := by
  obtain ⟨c, t, f, hb, hc⟩ := h.glob k h1 h2
  rw [← hg, hb]; exact hc

theorem of_spec {S : Nat → Addr} {w : World} (hL : LaidE S w) (k : Nat) (h1 : 1 ≤ k) (h2 : k ≤ 18) : Meets Tryd.prog 105 #[.int .i64 k] w fun v w' => v = errV S k ∧ w' = w := by
  refine f105_ok ?_
  unfold f105
  have hk : k = 1 ∨ k = 2 ∨ k = 3 ∨ k = 4 ∨ k = 5 ∨ k = 6 ∨ k = 7 ∨ k = 8 ∨ k = 9 ∨ k = 10 ∨ k = 11 ∨ k = 12 ∨ k = 13 ∨ k = 14 ∨ k = 15 ∨ k = 16 ∨ k = 17 ∨ k = 18 := by omega
  rcases hk with rfl | rfl | rfl | rfl | rfl | rfl | rfl | rfl | rfl | rfl | rfl | rfl | rfl | rfl | rfl | rfl | rfl | rfl <;>
    (have hr := hL.read h1 h2 rfl
     simp only [gErr] at hr
     simp -dsimp [hr])

theorem is_spec {S : Nat → Addr} {w : World} (hL : LaidE S w) (j k : Nat) (j1 : 1 ≤ j) (j2 : j ≤ 18) (k1 : 1 ≤ k) (k2 : k ≤ 18) : Meets Tryd.prog 45 #[errV S j, errV S k, .bool true] w fun v w' => v = .bool (decide (j = k)) ∧ w' = w := by
  refine f45_ok ?_
  unfold f45
  refine kL_of (fun x wr => x = errV S j ∧ wr = w) (fun _ _ => 0) ⟨⟨rfl, rfl⟩, ?_⟩
  rintro x wr ⟨rfl, rfl⟩
  unfold f45_0
  simp -dsimp
  by_cases h : j = k
  · subst h
    rw [errV, keq_if_same ifErr cmpSen]
    unfold f45_1
    simp -dsimp
  · obtain ⟨cj, tj, hj⟩ := hL.live j j1 j2
    obtain ⟨ck, tk, hk⟩ := hL.live k k1 k2
    rw [errV, errV, keq_if_other ifErr cmpSen (hL.ne j k j1 j2 k1 k2 h) hj hk]
    unfold f45_1
    simp -dsimp
    unfold f45_2
    rw [ksem_ta_no taIs zIs]
    simp -dsimp
    unfold f45_3
    simp -dsimp
    unfold f45_4
    rw [ksem_ta_no taUn zUn]
    simp -dsimp
    rw [ksem_ta_no taUs zUs]
    simp -dsimp [h]

theorem Is_cmp (x0 v : Value) (Q : Value → World → Prop) (w : World) : f17_1 x0 (.iface 192 v) Q w = kcall Tryd.prog 45 #[x0, .iface 192 v, .bool true] w (fun v12 w13 => Q v12 w13) := by kernel_rfl
theorem Is_spec {S : Nat → Addr} {w : World} (hL : LaidE S w) (j k : Nat) (j1 : 1 ≤ j) (j2 : j ≤ 18) (k1 : 1 ≤ k) (k2 : k ≤ 18) : Meets Tryd.prog 17 #[errV S j, errV S k] w fun v w' => v = .bool (decide (j = k)) ∧ w' = w := by
  refine f17_ok ?_
  unfold f17 f17_0
  rw [errV, keq_if_nil ifErr]
  simp -dsimp
  rw [errV, keq_if_nil ifErr]
  simp -dsimp
  rw [Is_cmp]
  refine kcall_of (is_spec hL j k j1 j2 k1 k2) ?_
  rintro v w' ⟨rfl, rfl⟩
  exact ⟨rfl, rfl⟩

theorem Has_spec {S : Nat → Addr} {w : World} (hL : LaidE S w) (j k : Nat) (j1 : 1 ≤ j) (j2 : j ≤ 18) (k1 : 1 ≤ k) (k2 : k ≤ 18) : Meets Tryd.prog 93 #[errV S j, .int .i64 k] w fun v w' => v = .bool (decide (j = k)) ∧ w' = w := by
  refine f93_ok ?_
  unfold f93
  refine kcall_of (of_spec hL k k1 k2) ?_
  rintro v w' ⟨rfl, rfl⟩
  rw [errV, keq_if_nil' ifErr]
  simp -dsimp
  refine kcall_of (Is_spec hL j k j1 j2 k1 k2) ?_
  rintro v w' ⟨rfl, rfl⟩
  exact ⟨rfl, rfl⟩

theorem Number_spec {S : Nat → Addr} {w : World} (hL : LaidE S w) (j : Nat) (j1 : 1 ≤ j) (j2 : j ≤ 18) : Meets Tryd.prog 68 #[errV S j] w fun v w' => v = .int .i64 j ∧ w' = w := by
  refine f68_ok ?_
  unfold f68
  rw [errV, keq_if_nil ifErr]
  simp -dsimp
  unfold f68_0
  refine kL_of (fun x wr => ∃ i : Nat, i < j ∧ x = .int .i64 i ∧ wr = w) (fun x _ => 18 - (RowKit.intOf x).toNat) ⟨⟨0, by omega, rfl, rfl⟩, ?_⟩
  rintro x wr ⟨i, hi, rfl, rfl⟩
  unfold f68_1
  have e : IntKind.i64.wrap ((i : Int) + 1) = ((i + 1 : Nat) : Int) := by rw [wrap_i64 (by omega) (by omega)]; simp
  simp -dsimp [show (i : Int) < 18 by omega]
  unfold f68_2
  simp -dsimp [e]
  refine kcall_of (Has_spec hL j (i + 1) j1 j2 (by omega) (by omega)) ?_
  rintro v w' ⟨rfl, rfl⟩
  simp -dsimp
  refine kIf_dec (fun h => ?_) (fun h => ?_)
  · simp -dsimp [h, e]
  · unfold f68_3
    simp -dsimp [e]
    exact ⟨⟨i + 1, by omega, rfl⟩, by simp [RowKit.intOf]; omega⟩
end Go.Proofs.YtcabkicjboedaaaDoor
