import Derived.Test.YtcabkicjboedaaaDoorEvQ
namespace Go.Ev
open Go Go.RowKit
/-! ### Elements of slices of records -/
theorem SlIs.cell {w : World} {a : Option Addr} {n sz : Nat} {vs : List Value} (h : SlIs w a n sz vs) {i j : Nat} (hi : i < n) (hj : j < sz) :
    ∃ b o c t f, a = some ⟨b, o, none⟩ ∧ Ev.blk w b = some (.cells c t f) ∧ c[o + i * sz + j]? = vs[i * sz + j]? := by
  obtain ⟨b, o, c, t, f, ha, hb, hle, hc⟩ := h.at hi (by omega)
  refine ⟨b, o, c, t, f, ha, hb, ?_⟩
  have e := congrArg (fun l : List Value => l[j]?) hc
  simp only [List.getElem?_take_of_lt hj, List.getElem?_drop] at e
  simpa using e
theorem flat_cell {α : Type} {F : α → List Value} {sz : Nat} (hF : ∀ x, (F x).length = sz) {l : List α} {i j : Nat} (hi : i < l.length) (hj : j < sz) : (l.flatMap F)[i * sz + j]? = (F l[i])[j]? := by
  have e := congrArg (fun l : List Value => l[j]?) (flat_get F sz hF l i hi)
  simp only [List.getElem?_take_of_lt hj, List.getElem?_drop] at e
  exact e
/-- 'x[i].f' of a slice of records. -/
theorem kixfld_of {α : Type} {F : α → List Value} {sz : Nat} (hF : ∀ x, (F x).length = sz) {w w' : World} {a : Option Addr} {l : List α} {c : Nat} {e : TypeId} {k : IntKind} {i j : Nat} {K : Value → Prop} {v : Value}
    (h : SlIs w a l.length sz (l.flatMap F)) (hi : i < l.length) (hv : (F l[i])[j]? = some v) (hw : w'.heap = w.heap) (hK : K v) :
    kix (some (.slice e)) (some sz) (.slice a l.length c) (.int k i) fun v1 => kfld j v1 fun v2 => kld v2 w' K := by
  have hj : j < sz := by rw [← hF l[i]]; exact (List.getElem?_eq_some_iff.1 hv).1
  obtain ⟨b, o, cs, t, f, rfl, hb, hc⟩ := h.cell hi hj
  rw [flat_cell hF hi hj, hv] at hc
  rw [kix_slice]
  refine kG_of (by omega) ?_
  rw [add_mk]
  refine kfld_of ?_
  refine kld_of (c := cs) (t := t) (f := f) (v := v) (by unfold blk at *; rw [hw]; exact hb) ?_ hK
  simpa using hc
/-- 'x[i]' of a slice of whole values of one cell. -/
theorem kixld_of {α : Type} {F : α → Value} {w w' : World} {a : Option Addr} {l : List α} {c : Nat} {e : TypeId} {k : IntKind} {i : Nat} {K : Value → Prop}
    (h : SlIs w a l.length 1 (l.map F)) (hi : i < l.length) (hw : w'.heap = w.heap) (hK : K (F l[i])) :
    kix (some (.slice e)) (some 1) (.slice a l.length c) (.int k i) fun v1 => kld v1 w' K := by
  obtain ⟨b, o, cs, t, f, rfl, hb, hc⟩ := h.cell (j := 0) hi (by omega)
  rw [kix_slice]
  refine kG_of (by omega) ?_
  rw [add_mk]
  refine kld_of (c := cs) (t := t) (f := f) (v := F l[i]) (by unfold blk at *; rw [hw]; exact hb) ?_ hK
  have : (l.map F)[i * 1 + 0]? = some (F l[i]) := by simp [hi]
  rw [this] at hc
  simpa using hc
/-- 'x[i]' of a slice of records, whole. -/
theorem kixldN_of {α : Type} {F : α → List Value} {sz : Nat} (hF : ∀ x, (F x).length = sz) (hs : 0 < sz) {w w' : World} {a : Option Addr} {l : List α} {c : Nat} {e : TypeId} {k : IntKind} {i : Nat} {K : Value → Prop}
    (h : SlIs w a l.length sz (l.flatMap F)) (hi : i < l.length) (hw : w'.heap = w.heap) (hK : K (.agg (F l[i]).toArray)) :
    kix (some (.slice e)) (some sz) (.slice a l.length c) (.int k i) fun v1 => kldN sz v1 w' K := by
  obtain ⟨b, o, cs, t, f, rfl, hb, hle, hc⟩ := h.at hi hs
  rw [flat_get F sz hF l i hi] at hc
  rw [kix_slice]
  refine kG_of (by omega) ?_
  rw [add_mk]
  exact kldN_of (c := cs) (t := t) (f := f) (by unfold blk at *; rw [hw]; exact hb) (by simpa using hle) (by simpa using hc) hs hK
end Go.Ev
