import Derived.Test.YtcabkicjboedaaaDoorEvR
namespace Go.Ev
open Go Go.RowKit Go.ChangeShapes
/-! ### Slices of records, read -/
theorem slIs_of_rd {α : Type} {F : α → List Value} {sz : Nat} (hF : ∀ x, (F x).length = sz) (hsz : 0 < sz) {ok : α → Prop} {P : Program} {w : World} {n : Nat} {t e : TypeId} {cs : List Value}
    (hu : P.underlying t = some (.slice e)) (he : P.cellsOf e = sz) (hel : ∀ ec, Rd P w n e ec → ∃ x, ok x ∧ F x = ec) (h : Rd P w (n + 1) t cs) :
    ∃ (a : Option Addr) (l : List α) (c : Nat), cs = [.slice a l.length c] ∧ (∀ x ∈ l, ok x) ∧ l.length ≤ c ∧ c ≤ maxLen ∧ SlIs w a l.length sz (l.flatMap F) := by
  rcases rd_slice hu h with rfl | ⟨a, len, cap, rfl, h1, h2, h3⟩
  · exact ⟨none, [], 0, rfl, by simp, by simp, by simp, SlIs.nil _ _ _⟩
  rw [he] at h3
  have key : ∀ m, m ≤ len → ∃ l : List α, l.length = m ∧ (∀ x ∈ l, ok x) ∧ ∀ i (hi : i < l.length), ∀ j, j < sz → w.cell? ((a.add (i * sz)).add j) = (F l[i])[j]? := by
    intro m
    induction m with
    | zero => intro _; exact ⟨[], rfl, by simp, by simp⟩
    | succ m ih =>
      intro hm
      obtain ⟨l, hl, hok, hc⟩ := ih (by omega)
      obtain ⟨ec, g1, g2⟩ := h3 m (by omega)
      obtain ⟨x, hx, rfl⟩ := hel ec g2
      refine ⟨l ++ [x], by simp [hl], ?_, ?_⟩
      · intro y hy
        rcases List.mem_append.1 hy with hy | hy
        · exact hok y hy
        · rw [List.mem_singleton.1 hy]; exact hx
      · intro i hi j hj
        by_cases hlt : i < l.length
        · rw [List.getElem_append_left hlt]; exact hc i hlt j hj
        · have : i = m := by simp at hi; omega
          subst this
          have e : (l ++ [x])[i]'hi = x := by rw [List.getElem_append_right (by omega)]; simp
          rw [e]
          unfold World.cells? at g1
          rw [if_pos (Nat.zero_le _)] at g1
          exact mapM_some_get g1 j j (by simp [hj])
  obtain ⟨l, hl, hok, hc⟩ := key len (Nat.le_refl _)
  refine ⟨some a, l, cap, by rw [hl], hok, by omega, h2, ?_⟩
  by_cases h0 : l.length = 0
  · have : l = [] := List.length_eq_zero_iff.1 h0
    subst this
    exact SlIs.nil _ _ _
  have hlen := flat_len F sz hF l
  refine ⟨hlen, .inr ?_⟩
  obtain ⟨b, o, s⟩ := a
  have hc0 := hc 0 (by omega) 0 hsz
  have hF0 : (F l[0])[0]? = some ((F (l[0]'(by omega)))[0]'(by rw [hF]; exact hsz)) := by rw [List.getElem?_eq_getElem]
  rw [hF0] at hc0
  have ea : Addr.add ⟨b, o, s⟩ 0 = ⟨b, o, s⟩ := rfl
  rw [Nat.zero_mul, ea, ea] at hc0
  have hb : ∃ c t f, Ev.blk w b = some (.cells c t f) ∧ s = none := by
    unfold World.cell? at hc0
    split at hc0
    · rename_i c t f hh
      refine ⟨c, t, f, hh, ?_⟩
      split at hc0
      · cases hc0
      · rename_i hs
        cases s with
        | none => rfl
        | some s => exact absurd (show (some s).isSome = true from rfl) hs
    · cases hc0
  obtain ⟨c, t', f, hb, rfl⟩ := hb
  refine ⟨b, o, c, t', f, rfl, hb, ?_⟩
  apply List.ext_getElem?
  intro k
  by_cases hk : k < l.length * sz
  · have hi : k / sz < l.length := Nat.div_lt_of_lt_mul (by rw [Nat.mul_comm]; exact hk)
    have hj : k % sz < sz := Nat.mod_lt _ hsz
    have e : k / sz * sz + k % sz = k := by rw [Nat.mul_comm]; exact Nat.div_add_mod k sz
    have h4 := hc (k / sz) hi (k % sz) hj
    rw [add_mk, add_mk, cell_mk, hb, cellO_some, Nat.add_assoc, e] at h4
    have h5 := flat_cell hF hi hj
    rw [e] at h5
    rw [List.getElem?_take_of_lt hk, List.getElem?_drop, h5, ← h4]
    simp
  · rw [List.getElem?_eq_none (by rw [List.length_take]; omega), List.getElem?_eq_none (by rw [hlen]; omega)]
end Go.Ev
