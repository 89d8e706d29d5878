import Derived.Test.YtcabkicjboedaaaDoorErr
import Derived.Test.YtcabkicjboedaaaDoorEvQ
import Derived.Test.YtcabkicjboedaaaDoorRows
import Derived.ProofKit
import Derived.Stop.Joined
import Derived.LaidMore
import Derived.LaidHandle
namespace Go.Proofs.YtcabkicjboedaaaDoor
open Go Go.Ev Go.RowKit Go.ChangeShapes
set_option linter.unusedVariables false
set_option maxRecDepth 100000

theorem own : ownKnob Tryd.prog.godebug = none := by kernel_rfl
theorem laidOut : laidOutB Tryd.prog = true := by kernel_rfl
theorem star : "*" ++ "errors.errorString" = "*errors.errorString" := by decide
theorem rowSen (u : TypeId) (h : Tryd.prog.typeName? 3 u = some "*errors.errorString") : u = 192 :=
  typeName_ptr_named (nm := "errors.errorString") (by rw [star]; kernel_rfl) (by kernel_rfl) (by decide) u (by rw [star]; exact h)
theorem cSen : Tryd.prog.cellsOf 216 = 1 := by kernel_rfl
theorem cStr : Tryd.prog.cellsOf 9 = 1 := by kernel_rfl
/-- The name and the text of a laid sentinel. -/
def sentOf : String × DataW Unit → String × List UInt8
  | (n, .iface _ (.ptr (.agg [.lit (.string s)]))) => (n, s)
  | (n, _) => (n, [])
/-- The sentinels' variables, in the order of their numbers. -/
def errG : Nat → String
  | 1 => "pasodoble/api.ErrArg" | 2 => "pasodoble/api.ErrNil" | 3 => "pasodoble/api.ErrForm" | 4 => "pasodoble/api.ErrLong" | 5 => "pasodoble/api.ErrSum" | 6 => "pasodoble/api.ErrFull" | 7 => "pasodoble/api.ErrNone" | 8 => "pasodoble/api.ErrState" | 9 => "pasodoble/api.ErrTwice"
  | 10 => "pasodoble/api.ErrName" | 11 => "pasodoble/api.ErrCycle" | 12 => "pasodoble/api.ErrStack" | 13 => "pasodoble/api.ErrJump" | 14 => "pasodoble/api.ErrOp" | 15 => "pasodoble/api.ErrFuel" | 16 => "pasodoble/api.ErrRange" | 17 => "pasodoble/api.ErrDead" | _ => "pasodoble/api.ErrWord"
def sentL : List (String × List UInt8) := Rows.queryPartsRow.laid.map sentOf
theorem sentL_laid : Rows.queryPartsRow.laid = sentL.map (sentD "*errors.errorString") := by rfl
theorem sentL_at (k : Nat) (h1 : 1 ≤ k) (h2 : k ≤ 18) : ∃ t, sentL[k - 1]? = some (errG k, t) ∧ Tryd.prog.globalNamed (errG k) = some (gErr k) ∧ (Tryd.prog.globals[gErr k]?).map (·.type) = some 36 := by
  have hk : k = 1 ∨ k = 2 ∨ k = 3 ∨ k = 4 ∨ k = 5 ∨ k = 6 ∨ k = 7 ∨ k = 8 ∨ k = 9 ∨ k = 10 ∨ k = 11 ∨ k = 12 ∨ k = 13 ∨ k = 14 ∨ k = 15 ∨ k = 16 ∨ k = 17 ∨ k = 18 := by omega
  rcases hk with rfl | rfl | rfl | rfl | rfl | rfl | rfl | rfl | rfl | rfl | rfl | rfl | rfl | rfl | rfl | rfl | rfl | rfl <;>
    exact ⟨_, rfl, by kernel_rfl, by kernel_rfl⟩
theorem sentL_len : sentL.length = 18 := rfl

theorem laidE_of {W : World} (h : laidMetH Tryd.prog Rows.queryPartsRow.laid W) : ∃ S, LaidE S W := by
  rw [MakeChecks.laidMetH_plain _ _ _ (by kernel_rfl), sentL_laid] at h
  obtain ⟨ps, hv, hnd, hrows⟩ := h
  obtain ⟨zs, h1, h2, h3⟩ := sent_list Tryd.underlying36 rowSen Tryd.underlying192 Tryd.underlying216 rfl rfl Tryd.underlying9 cSen cStr sentL ps hv
    (fun x hx => by
      obtain ⟨i, hi, rfl⟩ := List.mem_iff_getElem.1 hx
      rw [sentL_len] at hi
      obtain ⟨t, e1, e2, e3⟩ := sentL_at (i + 1) (by omega) (by omega)
      rw [Nat.add_sub_cancel, List.getElem?_eq_getElem (by rw [sentL_len]; exact hi), Option.some.injEq] at e1
      rw [e1]
      exact ⟨_, e2, e3⟩) hrows
  have key : ∀ k, 1 ≤ k → k ≤ 18 → ∃ a, zs[k - 1]? = some a ∧ W.var? Tryd.prog (errG k) = some #[.iface 192 (.pointer (some a))] ∧ ∃ c t, W.heap[a.block]? = some (.cells c t (0, 0)) := by
    intro k k1 k2
    obtain ⟨t, e1, _, _⟩ := sentL_at k k1 k2
    obtain ⟨a, s, g1, g2, _, _, _, g3⟩ := h3 _ _ e1
    exact ⟨a, g1, g2, g3⟩
  refine ⟨fun k => (zs[k - 1]?).getD ⟨0, 0, none⟩, ?_, ?_, ?_⟩
  · intro k k1 k2
    obtain ⟨a, g1, g2, _⟩ := key k k1 k2
    obtain ⟨t, _, e2, _⟩ := sentL_at k k1 k2
    obtain ⟨t, f, hb⟩ := blk_of_var e2 g2
    refine ⟨_, t, f, hb, ?_⟩
    simp [errV, g1]
  · intro j k j1 j2 k1 k2 hne
    obtain ⟨a, g1, _⟩ := key j j1 j2
    obtain ⟨b, g2, _⟩ := key k k1 k2
    simp only [g1, g2, Option.getD_some]
    exact sent_ne h2 hnd g1 g2 (by omega)
  · intro k k1 k2
    obtain ⟨a, g1, _, c, t, g2⟩ := key k k1 k2
    simp only [g1, Option.getD_some]
    exact ⟨c, t, g2⟩
end Go.Proofs.YtcabkicjboedaaaDoor
