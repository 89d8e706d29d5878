import Derived.Test.YtcabkicjboedaaaDoorQ5
namespace Go.Proofs.YtcabkicjboedaaaDoor
open Go Go.Ev
set_option linter.unusedVariables false
set_option linter.unusedSimpArgs false
set_option maxRecDepth 100000

/-! ### The plain law: with a component or without it, one of the two filters means it -/
theorem or_zero (a b : Nat) : a ||| b = 0 ↔ a = 0 ∧ b = 0 := Nat.or_eq_zero_iff
theorem andN_or (x y H : Nat) : andN (x ||| y) H = andN x H ||| andN y H := by unfold andN; rw [Nat.and_or_distrib_right]
theorem and_pow (n i : Nat) : n &&& 2 ^ i = (n.testBit i).toNat * 2 ^ i := by
  apply Nat.eq_of_testBit_eq
  intro j
  cases h : n.testBit i with
  | true =>
    simp only [Nat.testBit_and, Nat.testBit_two_pow, Bool.toNat_true, Nat.one_mul]
    by_cases e : i = j
    · subst e; simp [h]
    · simp [e]
  | false =>
    simp only [Nat.testBit_and, Nat.testBit_two_pow, Bool.toNat_false, Nat.zero_mul, Nat.zero_testBit]
    by_cases e : i = j
    · subst e; simp [h]
    · simp [e]
theorem bit_in (H e : Nat) (hH : H < 4294967296) (he : e < 32) : andN (2 ^ e) H = 0 ↔ H.testBit e = true := by
  unfold andN
  rw [Nat.and_comm, and_pow, show 4294967295 - H = 2 ^ 32 - (H + 1) by omega, Nat.testBit_two_pow_sub_succ (by omega)]
  have : 0 < 2 ^ e := Nat.two_pow_pos e
  cases H.testBit e <;> simp [he]
theorem bit_out (H e : Nat) : H &&& 2 ^ e = 0 ↔ H.testBit e = false := by
  rw [and_pow]
  have : 0 < 2 ^ e := Nat.two_pow_pos e
  cases H.testBit e <;> simp
theorem parts_law (f : Filter) (e : Nat) (he : e < 32) (frame : Int) (l : List Part) :
    meansF f frame l = (meansF ⟨f.wth ||| 2 ^ e, f.wout, f.chg⟩ frame l || meansF ⟨f.wth, f.wout ||| 2 ^ e, f.chg⟩ frame l) ∧
    (meansF ⟨f.wth ||| 2 ^ e, f.wout, f.chg⟩ frame l && meansF ⟨f.wth, f.wout ||| 2 ^ e, f.chg⟩ frame l) = false := by
  unfold meansF
  simp only [andN_or, or_zero, Nat.and_or_distrib_left, bit_in _ _ (hasF_lt l) he, bit_out]
  cases hb : (hasF l).testBit e <;> by_cases h1 : andN f.wth (hasF l) = 0 <;> by_cases h2 : hasF l &&& f.wout = 0 <;> by_cases h3 : andN f.chg (lateF (sinceF frame) l) = 0 <;> simp [h1, h2, h3]
end Go.Proofs.YtcabkicjboedaaaDoor
