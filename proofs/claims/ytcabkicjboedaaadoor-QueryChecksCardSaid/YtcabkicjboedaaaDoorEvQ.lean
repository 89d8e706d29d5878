import Derived.Test.YtcabkicjboedaaaDoorEvP
import Derived.ChangeArms
import Derived.OpenShut
import Derived.Stop.LaidErr
import Derived.MakeChecks
namespace Go.Ev
open Go Go.RowKit Go.ChangeShapes
set_option linter.unusedVariables false

/-! ### What a reading tells of the cells -/
/-- The cells read as the type says, n types deep. -/
def Rd (P : Program) (w : World) : Nat → TypeId → List Value → Prop
  | 0, _, _ => True
  | n + 1, t, cs => match P.underlying t with
    | some (.int k) => ∃ i, cs = [.int k i] ∧ (Lit.int k i).wf = true
    | some .bool => ∃ b, cs = [.bool b]
    | some .string => ∃ s, cs = [.string s] ∧ s.size ≤ maxLen
    | some (.slice e) => cs = [.slice none 0 0] ∨ ∃ a len cap, cs = [.slice (some a) len cap] ∧ len ≤ cap ∧ cap ≤ maxLen ∧
        ∀ i, i < len → ∃ ec, w.cells? 0 (a.add (i * P.cellsOf e)) (P.cellsOf e) = some ec ∧ Rd P w n e ec
    | some (.struct fs) => cs.length = P.cellsOf t ∧ ∀ f, f ∈ fs.toList → Rd P w n f.type ((cs.drop f.offset).take (P.cellsOf f.type))
    | some (.array m e) => cs.length = P.cellsOf t ∧ ∀ i, i < m → Rd P w n e ((cs.drop (i * P.cellsOf e)).take (P.cellsOf e))
    | _ => True

theorem rd_of_trod {H : Type} {enc : TypeId × Value → H} {P : Program} {w : World} {sp : Nat → Bool} {held : Bool} :
    ∀ (fuel : Nat) (t : TypeId) (cs : List Value) (x : DataW H × List MemPlace), DataW.trod enc P w 0 sp held fuel t cs = some x → ∀ n, Rd P w n t cs := by
  intro fuel
  induction fuel with
  | zero => intro t cs x h; simp [DataW.trod] at h
  | succ m ih =>
    intro t cs x h n
    cases n with
    | zero => trivial
    | succ n =>
      unfold Rd
      split
      · rename_i k hu
        obtain ⟨i, h1, _, h2⟩ := DataW.trod_int hu h
        exact ⟨i, h1, h2⟩
      · rename_i hu
        obtain ⟨b, h1, _⟩ := DataW.trod_bool hu h
        exact ⟨b, h1⟩
      · rename_i hu
        obtain ⟨s, h1, _, h2⟩ := DataW.trod_string hu h
        exact ⟨s, h1, h2⟩
      · rename_i e hu
        rcases DataW.trod_slice hu h with ⟨h1, _⟩ | ⟨a, len, cap, elems, rest, m', e1, h1, _, _, h2, h3, h4, h5, _⟩
        · exact Or.inl h1
        · refine Or.inr ⟨a, len, cap, h1, h2, h3, fun i hi => ?_⟩
          have h5 := h5 i hi
          have hi' : i < elems.length := by omega
          rw [List.getElem?_eq_getElem hi'] at h5
          obtain ⟨ec, h6, h7⟩ := Option.bind_eq_some_iff.1 h5
          obtain rfl : m' = m := by omega
          exact ⟨ec, h6, ih _ _ _ h7 n⟩
      · rename_i fs hu
        obtain ⟨xs, m', e1, _, h2, h3, h4⟩ := DataW.trod_struct hu h
        obtain rfl : m' = m := by omega
        refine ⟨h2, fun f hf => ?_⟩
        obtain ⟨i, hi, rfl⟩ := List.mem_iff_getElem.1 hf
        have hi' : i < fs.size := by simpa using hi
        have := h4 i (fs.toList[i]) (by simp [hi'])
        rw [List.getElem?_eq_getElem (show i < xs.length by omega)] at this
        exact ih _ _ _ this n
      · rename_i k e hu
        obtain ⟨xs, m', e1, _, h2, h3, h4⟩ := DataW.trod_array hu h
        obtain rfl : m' = m := by omega
        refine ⟨h2, fun i hi => ?_⟩
        have := h4 i hi
        rw [List.getElem?_eq_getElem (show i < xs.length by omega)] at this
        exact ih _ _ _ this n
      · trivial

theorem rd_of_Trod {H : Type} {enc : TypeId × Value → H} {P : Program} {w : World} {sp : Nat → Bool} {held : Bool} {t : TypeId} {v : Value} {d : DataW H} {ps : List MemPlace} (h : DataW.Trod enc P w 0 sp held t v d ps) (n : Nat) : Rd P w n t v.cells.toList := by
  obtain ⟨fuel, h⟩ := h
  exact rd_of_trod _ _ _ _ h n
/-- The fields' cells read as their types say. -/
def RdF (P : Program) (w : World) (n : Nat) (cs : List Value) : List Field → Prop
  | [] => True
  | f :: l => Rd P w n f.type ((cs.drop f.offset).take (P.cellsOf f.type)) ∧ RdF P w n cs l
section
variable {P : Program} {w : World} {n : Nat} {t : TypeId} {cs : List Value}
theorem rd_struct {l : List Field} (hu : P.underlying t = some (.struct l.toArray)) (h : Rd P w (n + 1) t cs) : cs.length = P.cellsOf t ∧ RdF P w n cs l := by
  unfold Rd at h
  rw [hu] at h
  refine ⟨h.1, ?_⟩
  have h2 := h.2
  clear hu h
  simp only at h2
  induction l with
  | nil => trivial
  | cons f l ih => exact ⟨h2 f (by simp), ih fun g hg => h2 g (by simp at hg ⊢; exact .inr hg)⟩
theorem rd_array {m : Nat} {e : TypeId} (hu : P.underlying t = some (.array m e)) (h : Rd P w (n + 1) t cs) : cs.length = P.cellsOf t ∧ ∀ i, i < m → Rd P w n e ((cs.drop (i * P.cellsOf e)).take (P.cellsOf e)) := by
  unfold Rd at h
  rw [hu] at h
  exact h
theorem rd_int {k : IntKind} (hu : P.underlying t = some (.int k)) (h : Rd P w (n + 1) t cs) : ∃ i, cs = [.int k i] ∧ (Lit.int k i).wf = true := by
  unfold Rd at h
  rw [hu] at h
  exact h
theorem rd_bool (hu : P.underlying t = some .bool) (h : Rd P w (n + 1) t cs) : ∃ b, cs = [.bool b] := by
  unfold Rd at h
  rw [hu] at h
  exact h
theorem rd_string (hu : P.underlying t = some .string) (h : Rd P w (n + 1) t cs) : ∃ s, cs = [.string s] ∧ s.size ≤ maxLen := by
  unfold Rd at h
  rw [hu] at h
  exact h
theorem rd_slice {e : TypeId} (hu : P.underlying t = some (.slice e)) (h : Rd P w (n + 1) t cs) : cs = [.slice none 0 0] ∨ ∃ a len cap, cs = [.slice (some a) len cap] ∧ len ≤ cap ∧ cap ≤ maxLen ∧
        ∀ i, i < len → ∃ ec, w.cells? 0 (a.add (i * P.cellsOf e)) (P.cellsOf e) = some ec ∧ Rd P w n e ec := by
  unfold Rd at h
  rw [hu] at h
  exact h
end

/-! ### The laid sentinels of a list -/
def sentD (nm : String) (x : String × List UInt8) : String × DataW Unit := (x.1, .iface nm (.ptr (.agg [.lit (.string x.2)])))

theorem sent_list {P : Program} {W : World} {nm : String} {ti tp te ts : TypeId} {ms : Array (String × TypeId)} {f : Field}
    (hi : P.underlying ti = some (.interface ms)) (hrow : ∀ u, P.typeName? 3 u = some nm → u = tp)
    (hp : P.underlying tp = some (.pointer te)) (he : P.underlying te = some (.struct #[f])) (hft : f.type = ts) (hfo : f.offset = 0) (hs : P.underlying ts = some .string) (hc : P.cellsOf te = 1) (hcs : P.cellsOf ts = 1) :
    ∀ (l : List (String × List UInt8)) (ps : List MemPlace), DataW.LaidVars P W (l.map (sentD nm)) ps →
      (∀ x ∈ l, ∃ g, P.globalNamed x.1 = some g ∧ (P.globals[g]?).map (·.type) = some ti) →
      (∀ b off, MemPlace.cell b off ∈ ps → (∃ c t, W.heap[b]? = some (.cells c t (0, 0))) ∧ ∀ u v, W.cell? ⟨b, off, none⟩ = some (.iface u v) → Value.okWide P W .any 0 u v) →
      ∃ as : List Addr, as.length = l.length ∧ (as.map fun a => MemPlace.cell a.block a.off).Sublist ps ∧
        ∀ (i : Nat) (x : String × List UInt8), l[i]? = some x → ∃ a s, as[i]? = some a ∧ W.var? P x.1 = some #[.iface tp (.pointer (some a))] ∧ W.cell? a = some (.string s) ∧ s.data.toList = x.2 ∧ s.size ≤ maxLen ∧
          ∃ c t, W.heap[a.block]? = some (.cells c t (0, 0)) := by
  intro l
  induction l with
  | nil => intro ps _ _ _; exact ⟨[], rfl, by simp, by simp⟩
  | cons y l ih =>
    intro ps hv hg hrows
    obtain ⟨g0', t0', cs0, f0, p0, q0, hg0', ht0', hv0, hd0, hq, e0⟩ := hv
    subst e0
    obtain ⟨g, hg1, hg2⟩ := hg y (by simp)
    obtain rfl := Option.some.inj (hg1.symm.trans hg0')
    obtain rfl := Option.some.inj (hg2.symm.trans ht0')
    obtain ⟨l0⟩ := cs0
    have ok0 : ∀ u v, l0 = [.iface u v] → Value.okWide P W .any 0 u v := fun u v e => by
      subst e
      exact (hrows g 0 (by simp [MemPlace.row])).2 u v (by simpa using World.var?_cell hg0' hv0 0)
    obtain ⟨a0, s0, rfl, hc0, hs0, hz0, rfl⟩ := errorString_of_trod hi hrow hp he hft hfo hs hc hcs hd0 ok0
    obtain ⟨as, h1, h2, h3⟩ := ih q0 hq (fun x hx => hg x (by simp [hx])) (fun b off hm => hrows b off (List.mem_append_right _ hm))
    refine ⟨a0 :: as, by simp [h1], ?_, ?_⟩
    · have e : MemPlace.row a0 1 = [.cell a0.block a0.off] := by simp [MemPlace.row]
      rw [e, List.map_cons, List.append_assoc]
      exact (h2.cons_cons _).trans (List.sublist_append_right _ _)
    · intro i x hx
      cases i with
      | zero =>
        simp only [List.getElem?_cons_zero, Option.some.injEq] at hx
        subst hx
        exact ⟨a0, s0, rfl, hv0, hc0, hs0, hz0, (hrows a0.block a0.off (by simp [MemPlace.row])).1⟩
      | succ i => exact h3 i x (by simpa using hx)

theorem sent_ne {as : List Addr} {ps : List MemPlace} (h : (as.map fun a => MemPlace.cell a.block a.off).Sublist ps) (hn : ps.Nodup) {i j : Nat} {a b : Addr} (hi : as[i]? = some a) (hj : as[j]? = some b) (hne : i ≠ j) : a ≠ b := by
  have hd := List.pairwise_iff_getElem.1 (List.Nodup.sublist h hn)
  rintro rfl
  obtain ⟨hi1, hi2⟩ := List.getElem?_eq_some_iff.1 hi
  obtain ⟨hj1, hj2⟩ := List.getElem?_eq_some_iff.1 hj
  rcases Nat.lt_or_gt_of_ne hne with hlt | hlt
  · exact hd i j (by simpa using hi1) (by simpa using hj1) hlt (by simp [hi2, hj2])
  · exact hd j i (by simpa using hj1) (by simpa using hi1) hlt (by simp [hi2, hj2])

/-- A named variable's block. -/
theorem blk_of_var {P : Program} {W : World} {n : String} {g : Nat} {cs : Array Value} (hg : P.globalNamed n = some g) (h : W.var? P n = some cs) : ∃ t f, blk W g = some (.cells cs t f) := by
  unfold World.var? at h
  rw [hg] at h
  simp only [Option.bind_some] at h
  unfold blk
  split at h
  · rename_i c t f hb
    simp only [Option.some.injEq] at h
    subst h
    exact ⟨t, f, hb⟩
  · cases h
end Go.Ev
