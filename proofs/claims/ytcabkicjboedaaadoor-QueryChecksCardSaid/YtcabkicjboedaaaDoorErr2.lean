import Derived.Test.YtcabkicjboedaaaDoorErr
namespace Go.Proofs.YtcabkicjboedaaaDoor
open Go Go.Ev
set_option linter.unusedVariables false
set_option linter.unusedSimpArgs false
set_option maxRecDepth 100000

/-! ### Errors with where they are, several at once -/
abbrev Leaf := List ByteArray × Nat
def joinP : List ByteArray → ByteArray
  | [] => ⟨#[]⟩
  | x :: xs => xs.foldl (fun a y => a ++ ⟨#[47]⟩ ++ y) x
/-- v is an error of at most d levels with the leaves ls. -/
def ErrIs (S : Nat → Addr) (w : World) : Nat → Value → List Leaf → Prop
  | 0, v, ls => ∃ k, 1 ≤ k ∧ k ≤ 18 ∧ v = errV S k ∧ ls = [([], k)]
  | d + 1, v, ls => ErrIs S w d v ls ∨
      (∃ b wh u ls' t f, v = .iface 120 (.pointer (some ⟨b, 0, none⟩)) ∧ blk w b = some (.cells #[.string wh, u] t f) ∧ ErrIs S w d u ls' ∧ ls = ls'.map (fun l => (wh :: l.1, l.2))) ∨
      (∃ (b : Nat) (a : Option Addr) (n c : Nat) (zs : List (Value × List Leaf)) (t : TypeId) (f : Nat × Nat), v = .iface 124 (.pointer (some ⟨b, 0, none⟩)) ∧ blk w b = some (.cells #[.slice a n c] t f) ∧ SlIs w a n 1 (zs.map (·.1)) ∧ zs ≠ [] ∧
        (∀ p ∈ zs, ErrIs S w d p.1 p.2) ∧ ls = zs.flatMap (·.2))
theorem ErrIs.same {S : Nat → Addr} {w w' : World} (hm : Same w w') : ∀ {d : Nat} {v : Value} {ls : List Leaf}, ErrIs S w d v ls → ErrIs S w' d v ls
  | 0, _, _, h => h
  | d + 1, v, ls, h => by
    rcases h with h | ⟨b, wh, u, ls', t, f, h1, h2, h3, h4⟩ | ⟨b, a, n, c, zs, t, f, h1, h2, h3, h4, h5, h6⟩
    · exact .inl (h.same hm)
    · exact .inr (.inl ⟨b, wh, u, ls', t, f, h1, hm.get h2 (fun h => h), h3.same hm, h4⟩)
    · exact .inr (.inr ⟨b, a, n, c, zs, t, f, h1, hm.get h2 (fun h => h), h3.same hm, h4, fun p hp => (h5 p hp).same hm, h6⟩)
theorem ErrIs.up {S : Nat → Addr} {w : World} {d d' : Nat} {v : Value} {ls : List Leaf} (h : ErrIs S w d v ls) (hd : d ≤ d') : ErrIs S w d' v ls := by
  induction hd with
  | refl => exact h
  | step _ ih => exact .inl ih
theorem ErrIs.pos {S : Nat → Addr} {w : World} : ∀ {d : Nat} {v : Value} {ls : List Leaf}, ErrIs S w d v ls → 1 ≤ ls.length
  | 0, v, ls, ⟨k, _, _, _, e⟩ => by simp [e]
  | d + 1, v, ls, h => by
    rcases h with h | ⟨b, wh, u, ls', t, f, h1, h2, h3, h4⟩ | ⟨b, a, n, c, zs, t, f, h1, h2, h3, h4, h5, h6⟩
    · exact h.pos
    · have := h3.pos; simp [h4]; omega
    · cases zs with
      | nil => exact absurd rfl h4
      | cons x zs =>
        have := (h5 x (by simp)).pos
        simp [h6, List.flatMap_cons]; omega
theorem ErrIs.cases {S : Nat → Addr} {w : World} : ∀ {d : Nat} {v : Value} {ls : List Leaf}, ErrIs S w d v ls →
    (∃ k, 1 ≤ k ∧ k ≤ 18 ∧ v = errV S k ∧ ls = [([], k)]) ∨
      (∃ d', d' < d ∧ ∃ b wh u ls' t f, v = .iface 120 (.pointer (some ⟨b, 0, none⟩)) ∧ blk w b = some (.cells #[.string wh, u] t f) ∧ ErrIs S w d' u ls' ∧ ls = ls'.map (fun l => (wh :: l.1, l.2))) ∨
      (∃ d', d' < d ∧ ∃ (b : Nat) (a : Option Addr) (n c : Nat) (zs : List (Value × List Leaf)) (t : TypeId) (f : Nat × Nat), v = .iface 124 (.pointer (some ⟨b, 0, none⟩)) ∧ blk w b = some (.cells #[.slice a n c] t f) ∧ SlIs w a n 1 (zs.map (·.1)) ∧ zs ≠ [] ∧
        (∀ p ∈ zs, ErrIs S w d' p.1 p.2) ∧ ls = zs.flatMap (·.2))
  | 0, v, ls, h => .inl h
  | d + 1, v, ls, h => by
    rcases h with h | h | h
    · rcases h.cases with h | ⟨d', hd, h⟩ | ⟨d', hd, h⟩
      · exact .inl h
      · exact .inr (.inl ⟨d', by omega, h⟩)
      · exact .inr (.inr ⟨d', by omega, h⟩)
    · exact .inr (.inl ⟨d, by omega, h⟩)
    · exact .inr (.inr ⟨d, by omega, h⟩)
theorem ErrIs.one {S : Nat → Addr} {w : World} {d : Nat} {v : Value} {ls : List Leaf} (h : ErrIs S w d v ls) : ∃ t u, v = .iface t u := by
  rcases h.cases with ⟨k, _, _, rfl, _⟩ | ⟨d', _, b, wh, u, ls', t, f, rfl, _⟩ | ⟨d', _, b, a, n, c, zs, t, f, rfl, _⟩ <;> exact ⟨_, _, rfl⟩
/-- An error, or none. -/
def ErrO (S : Nat → Addr) (w : World) (d : Nat) (v : Value) (ls : List Leaf) : Prop := (v = .nilIface ∧ ls = []) ∨ ErrIs S w d v ls
theorem ErrO.same {S : Nat → Addr} {w w' : World} {d : Nat} {v : Value} {ls : List Leaf} (h : ErrO S w d v ls) (hm : Same w w') : ErrO S w' d v ls := h.imp id fun h => h.same hm
theorem ErrO.up {S : Nat → Addr} {w : World} {d d' : Nat} {v : Value} {ls : List Leaf} (h : ErrO S w d v ls) (hd : d ≤ d') : ErrO S w d' v ls := h.imp id fun h => h.up hd
theorem ErrO.nil_iff {S : Nat → Addr} {w : World} {d : Nat} {v : Value} {ls : List Leaf} (h : ErrO S w d v ls) : (ls = [] ∧ v = .nilIface) ∨ (ls ≠ [] ∧ ∃ t u, v = .iface t u) := by
  rcases h with ⟨h1, h2⟩ | h
  · exact .inl ⟨h2, h1⟩
  · exact .inr ⟨fun e => by have := h.pos; simp [e] at this, h.one⟩

theorem At_spec {S : Nat → Addr} {w : World} {d : Nat} {u : Value} {ls : List Leaf} (hu : ErrO S w d u ls) (wh : ByteArray) : Meets Tryd.prog 71 #[.string wh, u] w fun v w' => ErrO S w' (d + 1) v (ls.map fun l => (wh :: l.1, l.2)) ∧ Same w w' := by
  refine f71_ok ?_
  unfold f71
  rcases hu with ⟨rfl, rfl⟩ | hu
  · rw [keq_nil_nil ifErr]
    simp -dsimp
    exact ⟨.inl ⟨rfl, rfl⟩, Mod.refl _ _⟩
  · obtain ⟨t, x, rfl⟩ := hu.one
    rw [keq_if_nil ifErr]
    unfold f71_0
    simp -dsimp
    have hs : ∀ o, Same w (w.alloc o) := fun o => (Mod.refl _ _).alloc o
    exact ⟨.inr (.inr (.inl ⟨_, wh, _, ls, _, _, rfl, alloc_heap_new _ _, hu.same (hs _), rfl⟩)), hs _⟩
end Go.Proofs.YtcabkicjboedaaaDoor
