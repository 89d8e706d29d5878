/-
Lemmas for the statements of this seat: no statement of the seat is proved in this part (2 of 3); the conditions stand in each theorem.
-/
import Derived.Test.YtkkgakhfeldokaaGreatDoorMill1
import Derived.ChangeArms
import Derived.OpenShut
import Derived.Stop.LaidErr
import Derived.MakeChecks
import Derived.Test.YtkkgakhfeldokaaGreatDoorChecked
section
namespace Go.Ev
open Go Go.RowKit
/-! ### New memory, its world a letter -/
theorem knew_of {cs : Array Value} {t : TypeId} {w : World} {K : Value → World → Prop} (h : ∀ w2, Same w w2 → w2.heap.size = w.heap.size + 1 → blk w2 w.heap.size = some (.cells cs t) → K (.pointer (some ⟨w.heap.size, 0, none⟩)) w2) : knew cs t w K :=
  h _ ((Mod.refl _ _).alloc _) (by simp) (alloc_heap_new _ _)
theorem kbldS_of {z : List Value} {n : Nat} {qs : List (Nat × Nat × Value)} {ty : TypeId} {w : World} {K : Value → World → Prop} {cs : List Value} (hf : fillL (zrow z n) qs = some cs)
    (h : ∀ w2, Same w w2 → w2.heap.size = w.heap.size + 1 → blk w2 w.heap.size = some (.cells cs.toArray ty) → K (.slice (some ⟨w.heap.size, 0, none⟩) n n) w2) : kbldS z n qs ty w K := by
  rw [kbldS_eq, hf]
  exact h _ ((Mod.refl _ _).alloc _) (by simp) (alloc_heap_new _ _)
theorem kbld_of {z : List Value} {qs : List (Nat × Nat × Value)} {K : Value → Prop} {cs : List Value} (hf : fillL z qs = some cs) (h : K (.agg cs.toArray)) : kbld z qs K := by
  rw [kbld_eq, hf]
  exact h
theorem SlIs.blk {w : World} {b : Nat} {arr : Array Value} {t : TypeId} {f : Nat × Nat} (hb : blk w b = some (.cells arr t f)) {n sz : Nat} (h : arr.size = n * sz) : SlIs w (some ⟨b, 0, none⟩) n sz arr.toList :=
  ⟨by simpa using h, .inr ⟨_, 0, arr, t, f, rfl, hb, by rw [List.drop_zero, ← h, ← Array.length_toList, List.take_length]⟩⟩
theorem Own.blk {w : World} {b : Nat} {arr : Array Value} {t : TypeId} (hb : blk w b = some (.cells arr t)) {n sz : Nat} (h : arr.size = n * sz) (hn : n ≤ maxLen) : Own w (.slice (some ⟨b, 0, none⟩) n n) sz arr.toList :=
  ⟨_, n, n, rfl, by simpa using h, Nat.le_refl _, hn, .inr ⟨_, arr, t, rfl, hb, h, by rw [← h, ← Array.length_toList, List.take_length]⟩⟩
theorem kfld_of {b o n : Nat} {K : Value → Prop} (h : K (.pointer (some ⟨b, o + n, none⟩))) : kfld n (.pointer (some ⟨b, o, none⟩)) K := by
  rw [kfld_ptr, add_mk]; exact h
theorem kld_of {b o : Nat} {w : World} {K : Value → Prop} {c : Array Value} {t : TypeId} {f : Nat × Nat} {v : Value} (hb : Ev.blk w b = some (.cells c t f)) (hc : c[o]? = some v) (h : K v) : kld (.pointer (some ⟨b, o, none⟩)) w K := by
  rw [kld_ptr, cell_mk, hb, cellO_some, hc]; exact h
theorem kldN_of {n b o : Nat} {w : World} {K : Value → Prop} {c : Array Value} {t : TypeId} {f : Nat × Nat} {cs : List Value} (hb : Ev.blk w b = some (.cells c t f)) (hle : o + n ≤ c.size) (hc : (c.toList.drop o).take n = cs) (hn : 0 < n) (h : K (.agg cs.toArray)) : kldN n (.pointer (some ⟨b, o, none⟩)) w K := by
  rw [kldN_ptr, cellsAt_pos _ _ _ _ hn, hb, cellsO_some hle, hc]; exact h
theorem kst_of {n b o : Nat} {v : Value} {w : World} {K : World → Prop} {c : Array Value} {t : TypeId} {vs : List Value} (hb : Ev.blk w b = some (.cells c t)) (hv : v.cells.toList = vs) (hn : vs.length = n) (h1 : oneCells vs = true) (hle : o + n ≤ c.size) (hne : vs ≠ [])
    (h : ∀ w2, Mod (fun k => k = b) w w2 → w2.heap.size = w.heap.size → Ev.blk w2 b = some (.cells (setAll vs c o) t) → K w2) : kst n (.pointer (some ⟨b, o, none⟩)) v w K := by
  have hst := stores_blk (b := b) (o := o) (t := t) vs 0 w c hb h1 (by simpa [hn] using hle) hne
  have hsz : v.cells.size = n := by rw [← hn, ← hv, Array.length_toList]
  rw [kst_ptr, hv, hst, kO_some]
  refine kG_of hsz (h _ ((Mod.refl _ _).setBlk _ (.inl rfl)) (setBlk_size _ _ _) ?_)
  rw [setBlk_heap, if_pos rfl, hb]; rfl
end Go.Ev
end
section
namespace Go.Ev
open Go Go.RowKit Go.ChangeShapes
set_option linter.unusedVariables false

/-! ### What a reading tells of the cells -/
/-- The cells read zs the type says, n types deep. -/
def Rd (P : Program) (w : World) : Nat → TypeId → List Value → Prop
  | 0, _, _ => True
  | n + 1, t, cs => match P.underlying t with
    | some (.int k) => ∃ i, cs = [.int k i] ∧ (Lit.int k i).wf = true
    | some .bool => ∃ b, cs = [.bool b]
    | some .string => ∃ s, cs = [.string s] ∧ s.size ≤ maxLen
    | some (.slice e) => cs = [.slice none 0 0] ∨ ∃ a len cap, cs = [.slice (some a) len cap] ∧ len ≤ cap ∧ cap ≤ maxLen ∧
        ∀ i, i < len → ∃ ec, w.cells? 0 (a.add (i * P.cellsOf e)) (P.cellsOf e) = some ec ∧ Rd P w n e ec
    | some (.struct fs) => cs.length = P.cellsOf t ∧ ∀ f, f ∈ fs.toList → Rd P w n f.type ((cs.drop f.offset).take (P.cellsOf f.type))
    | some (.array m e) => cs.length = P.cellsOf t ∧ ∀ i, i < m → Rd P w n e ((cs.drop (i * P.cellsOf e)).take (P.cellsOf e))
    | _ => True

theorem rd_of_trod {H : Type} {enc : TypeId × Value → H} {P : Program} {w : World} {sp : Nat → Bool} {held : Bool} :
    ∀ (fuel : Nat) (t : TypeId) (cs : List Value) (x : DataW H × List MemPlace), DataW.trod enc P w 0 sp held fuel t cs = some x → ∀ n, Rd P w n t cs := by
  intro fuel
  induction fuel with
  | zero => intro t cs x h; simp [DataW.trod] at h
  | succ m ih =>
    intro t cs x h n
    cases n with
    | zero => trivial
    | succ n =>
      unfold Rd
      split
      · rename_i k hu
        obtain ⟨i, h1, _, h2⟩ := DataW.trod_int hu h
        exact ⟨i, h1, h2⟩
      · rename_i hu
        obtain ⟨b, h1, _⟩ := DataW.trod_bool hu h
        exact ⟨b, h1⟩
      · rename_i hu
        obtain ⟨s, h1, _, h2⟩ := DataW.trod_string hu h
        exact ⟨s, h1, h2⟩
      · rename_i e hu
        rcases DataW.trod_slice hu h with ⟨h1, _⟩ | ⟨a, len, cap, elems, rest, m', e1, h1, _, _, h2, h3, h4, h5, _⟩
        · exact Or.inl h1
        · refine Or.inr ⟨a, len, cap, h1, h2, h3, fun i hi => ?_⟩
          have h5 := h5 i hi
          have hi' : i < elems.length := by omega
          rw [List.getElem?_eq_getElem hi'] at h5
          obtain ⟨ec, h6, h7⟩ := Option.bind_eq_some_iff.1 h5
          obtain rfl : m' = m := by omega
          exact ⟨ec, h6, ih _ _ _ h7 n⟩
      · rename_i fs hu
        obtain ⟨xs, m', e1, _, h2, h3, h4⟩ := DataW.trod_struct hu h
        obtain rfl : m' = m := by omega
        refine ⟨h2, fun f hf => ?_⟩
        obtain ⟨i, hi, rfl⟩ := List.mem_iff_getElem.1 hf
        have hi' : i < fs.size := by simpa using hi
        have := h4 i (fs.toList[i]) (by simp [hi'])
        rw [List.getElem?_eq_getElem (show i < xs.length by omega)] at this
        exact ih _ _ _ this n
      · rename_i k e hu
        obtain ⟨xs, m', e1, _, h2, h3, h4⟩ := DataW.trod_array hu h
        obtain rfl : m' = m := by omega
        refine ⟨h2, fun i hi => ?_⟩
        have := h4 i hi
        rw [List.getElem?_eq_getElem (show i < xs.length by omega)] at this
        exact ih _ _ _ this n
      · trivial

theorem rd_of_Trod {H : Type} {enc : TypeId × Value → H} {P : Program} {w : World} {sp : Nat → Bool} {held : Bool} {t : TypeId} {v : Value} {d : DataW H} {ps : List MemPlace} (h : DataW.Trod enc P w 0 sp held t v d ps) (n : Nat) : Rd P w n t v.cells.toList := by
  obtain ⟨fuel, h⟩ := h
  exact rd_of_trod _ _ _ _ h n
/-- The fields' cells read zs their types say. -/
def RdF (P : Program) (w : World) (n : Nat) (cs : List Value) : List Field → Prop
  | [] => True
  | f :: l => Rd P w n f.type ((cs.drop f.offset).take (P.cellsOf f.type)) ∧ RdF P w n cs l
section
variable {P : Program} {w : World} {n : Nat} {t : TypeId} {cs : List Value}
theorem rd_struct {l : List Field} (hu : P.underlying t = some (.struct l.toArray)) (h : Rd P w (n + 1) t cs) : cs.length = P.cellsOf t ∧ RdF P w n cs l := by
  unfold Rd at h
  rw [hu] at h
  refine ⟨h.1, ?_⟩
  have h2 := h.2
  clear hu h
  simp only at h2
  induction l with
  | nil => trivial
  | cons f l ih => exact ⟨h2 f (by simp), ih fun g hg => h2 g (by simp at hg ⊢; exact .inr hg)⟩
theorem rd_array {m : Nat} {e : TypeId} (hu : P.underlying t = some (.array m e)) (h : Rd P w (n + 1) t cs) : cs.length = P.cellsOf t ∧ ∀ i, i < m → Rd P w n e ((cs.drop (i * P.cellsOf e)).take (P.cellsOf e)) := by
  unfold Rd at h
  rw [hu] at h
  exact h
theorem rd_int {k : IntKind} (hu : P.underlying t = some (.int k)) (h : Rd P w (n + 1) t cs) : ∃ i, cs = [.int k i] ∧ (Lit.int k i).wf = true := by
  unfold Rd at h
  rw [hu] at h
  exact h
theorem rd_bool (hu : P.underlying t = some .bool) (h : Rd P w (n + 1) t cs) : ∃ b, cs = [.bool b] := by
  unfold Rd at h
  rw [hu] at h
  exact h
theorem rd_string (hu : P.underlying t = some .string) (h : Rd P w (n + 1) t cs) : ∃ s, cs = [.string s] ∧ s.size ≤ maxLen := by
  unfold Rd at h
  rw [hu] at h
  exact h
theorem rd_slice {e : TypeId} (hu : P.underlying t = some (.slice e)) (h : Rd P w (n + 1) t cs) : cs = [.slice none 0 0] ∨ ∃ a len cap, cs = [.slice (some a) len cap] ∧ len ≤ cap ∧ cap ≤ maxLen ∧
        ∀ i, i < len → ∃ ec, w.cells? 0 (a.add (i * P.cellsOf e)) (P.cellsOf e) = some ec ∧ Rd P w n e ec := by
  unfold Rd at h
  rw [hu] at h
  exact h
end

/-! ### The laid sentinels of a list -/
def sentD (nm : String) (x : String × List UInt8) : String × DataW Unit := (x.1, .iface nm (.ptr (.agg [.lit (.string x.2)])))

theorem sent_list {P : Program} {W : World} {nm : String} {ti tp te ts : TypeId} {ms : Array (String × TypeId)} {f : Field}
    (hi : P.underlying ti = some (.interface ms)) (hrow : ∀ u, P.typeName? 3 u = some nm → u = tp)
    (hp : P.underlying tp = some (.pointer te)) (he : P.underlying te = some (.struct #[f])) (hft : f.type = ts) (hfo : f.offset = 0) (hs : P.underlying ts = some .string) (hc : P.cellsOf te = 1) (hcs : P.cellsOf ts = 1) :
    ∀ (l : List (String × List UInt8)) (ps : List MemPlace), DataW.LaidVars P W (l.map (sentD nm)) ps →
      (∀ x ∈ l, ∃ g, P.globalNamed x.1 = some g ∧ (P.globals[g]?).map (·.type) = some ti) →
      (∀ b off, MemPlace.cell b off ∈ ps → (∃ c t, W.heap[b]? = some (.cells c t (0, 0))) ∧ ∀ u v, W.cell? ⟨b, off, none⟩ = some (.iface u v) → Value.okWide P W .any 0 u v) →
      ∃ zs : List Addr, zs.length = l.length ∧ (zs.map fun a => MemPlace.cell a.block a.off).Sublist ps ∧
        ∀ (i : Nat) (x : String × List UInt8), l[i]? = some x → ∃ a s, zs[i]? = some a ∧ W.var? P x.1 = some #[.iface tp (.pointer (some a))] ∧ W.cell? a = some (.string s) ∧ s.data.toList = x.2 ∧ s.size ≤ maxLen ∧
          ∃ c t, W.heap[a.block]? = some (.cells c t (0, 0)) := by
  intro l
  induction l with
  | nil => intro ps _ _ _; exact ⟨[], rfl, by simp, by simp⟩
  | cons y l ih =>
    intro ps hv hg hrows
    obtain ⟨g0', t0', cs0, f0, p0, q0, hg0', ht0', hv0, hd0, hq, e0⟩ := hv
    subst e0
    obtain ⟨g, hg1, hg2⟩ := hg y (by simp)
    obtain rfl := Option.some.inj (hg1.symm.trans hg0')
    obtain rfl := Option.some.inj (hg2.symm.trans ht0')
    obtain ⟨l0⟩ := cs0
    have ok0 : ∀ u v, l0 = [.iface u v] → Value.okWide P W .any 0 u v := fun u v e => by
      subst e
      exact (hrows g 0 (by simp [MemPlace.row])).2 u v (by simpa using World.var?_cell hg0' hv0 0)
    obtain ⟨a0, s0, rfl, hc0, hs0, hz0, rfl⟩ := errorString_of_trod hi hrow hp he hft hfo hs hc hcs hd0 ok0
    obtain ⟨zs, h1, h2, h3⟩ := ih q0 hq (fun x hx => hg x (by simp [hx])) (fun b off hm => hrows b off (List.mem_append_right _ hm))
    refine ⟨a0 :: zs, by simp [h1], ?_, ?_⟩
    · have e : MemPlace.row a0 1 = [.cell a0.block a0.off] := by simp [MemPlace.row]
      rw [e, List.map_cons, List.append_assoc]
      exact (h2.cons_cons _).trans (List.sublist_append_right _ _)
    · intro i x hx
      cases i with
      | zero =>
        simp only [List.getElem?_cons_zero, Option.some.injEq] at hx
        subst hx
        exact ⟨a0, s0, rfl, hv0, hc0, hs0, hz0, (hrows a0.block a0.off (by simp [MemPlace.row])).1⟩
      | succ i => exact h3 i x (by simpa using hx)

theorem sent_ne {zs : List Addr} {ps : List MemPlace} (h : (zs.map fun a => MemPlace.cell a.block a.off).Sublist ps) (hn : ps.Nodup) {i j : Nat} {a b : Addr} (hi : zs[i]? = some a) (hj : zs[j]? = some b) (hne : i ≠ j) : a ≠ b := by
  have hd := List.pairwise_iff_getElem.1 (List.Nodup.sublist h hn)
  rintro rfl
  obtain ⟨hi1, hi2⟩ := List.getElem?_eq_some_iff.1 hi
  obtain ⟨hj1, hj2⟩ := List.getElem?_eq_some_iff.1 hj
  rcases Nat.lt_or_gt_of_ne hne with hlt | hlt
  · exact hd i j (by simpa using hi1) (by simpa using hj1) hlt (by simp [hi2, hj2])
  · exact hd j i (by simpa using hj1) (by simpa using hi1) hlt (by simp [hi2, hj2])

/-- A named variable's block. -/
theorem blk_of_var {P : Program} {W : World} {n : String} {g : Nat} {cs : Array Value} (hg : P.globalNamed n = some g) (h : W.var? P n = some cs) : ∃ t f, blk W g = some (.cells cs t f) := by
  unfold World.var? at h
  rw [hg] at h
  simp only [Option.bind_some] at h
  unfold blk
  split at h
  · rename_i c t f hb
    simp only [Option.some.injEq] at h
    subst h
    exact ⟨t, f, hb⟩
  · cases h
end Go.Ev
end
section
namespace Go.Ev
open Go Go.RowKit
/-! ### Elements of slices of records -/
theorem SlIs.cell {w : World} {a : Option Addr} {n sz : Nat} {vs : List Value} (h : SlIs w a n sz vs) {i j : Nat} (hi : i < n) (hj : j < sz) :
    ∃ b o c t f, a = some ⟨b, o, none⟩ ∧ Ev.blk w b = some (.cells c t f) ∧ c[o + i * sz + j]? = vs[i * sz + j]? := by
  obtain ⟨b, o, c, t, f, ha, hb, hle, hc⟩ := h.at hi (by omega)
  refine ⟨b, o, c, t, f, ha, hb, ?_⟩
  have e := congrArg (fun l : List Value => l[j]?) hc
  simp only [List.getElem?_take_of_lt hj, List.getElem?_drop] at e
  simpa using e
theorem flat_cell {α : Type} {F : α → List Value} {sz : Nat} (hF : ∀ x, (F x).length = sz) {l : List α} {i j : Nat} (hi : i < l.length) (hj : j < sz) : (l.flatMap F)[i * sz + j]? = (F l[i])[j]? := by
  have e := congrArg (fun l : List Value => l[j]?) (flat_get F sz hF l i hi)
  simp only [List.getElem?_take_of_lt hj, List.getElem?_drop] at e
  exact e
/-- 'x[i].f' of a slice of records. -/
theorem kixfld_of {α : Type} {F : α → List Value} {sz : Nat} (hF : ∀ x, (F x).length = sz) {w w' : World} {a : Option Addr} {l : List α} {c : Nat} {e : TypeId} {k : IntKind} {i j : Nat} {K : Value → Prop} {v : Value}
    (h : SlIs w a l.length sz (l.flatMap F)) (hi : i < l.length) (hv : (F l[i])[j]? = some v) (hw : w'.heap = w.heap) (hK : K v) :
    kix (some (.slice e)) (some sz) (.slice a l.length c) (.int k i) fun v1 => kfld j v1 fun v2 => kld v2 w' K := by
  have hj : j < sz := by rw [← hF l[i]]; exact (List.getElem?_eq_some_iff.1 hv).1
  obtain ⟨b, o, cs, t, f, rfl, hb, hc⟩ := h.cell hi hj
  rw [flat_cell hF hi hj, hv] at hc
  rw [kix_slice]
  refine kG_of (by omega) ?_
  rw [add_mk]
  refine kfld_of ?_
  refine kld_of (c := cs) (t := t) (f := f) (v := v) (by unfold blk at *; rw [hw]; exact hb) ?_ hK
  simpa using hc
/-- 'x[i]' of a slice of whole values of one cell. -/
theorem kixld_of {α : Type} {F : α → Value} {w w' : World} {a : Option Addr} {l : List α} {c : Nat} {e : TypeId} {k : IntKind} {i : Nat} {K : Value → Prop}
    (h : SlIs w a l.length 1 (l.map F)) (hi : i < l.length) (hw : w'.heap = w.heap) (hK : K (F l[i])) :
    kix (some (.slice e)) (some 1) (.slice a l.length c) (.int k i) fun v1 => kld v1 w' K := by
  obtain ⟨b, o, cs, t, f, rfl, hb, hc⟩ := h.cell (j := 0) hi (by omega)
  rw [kix_slice]
  refine kG_of (by omega) ?_
  rw [add_mk]
  refine kld_of (c := cs) (t := t) (f := f) (v := F l[i]) (by unfold blk at *; rw [hw]; exact hb) ?_ hK
  have : (l.map F)[i * 1 + 0]? = some (F l[i]) := by simp [hi]
  rw [this] at hc
  simpa using hc
/-- 'x[i]' of a slice of records, whole. -/
theorem kixldN_of {α : Type} {F : α → List Value} {sz : Nat} (hF : ∀ x, (F x).length = sz) (hs : 0 < sz) {w w' : World} {a : Option Addr} {l : List α} {c : Nat} {e : TypeId} {k : IntKind} {i : Nat} {K : Value → Prop}
    (h : SlIs w a l.length sz (l.flatMap F)) (hi : i < l.length) (hw : w'.heap = w.heap) (hK : K (.agg (F l[i]).toArray)) :
    kix (some (.slice e)) (some sz) (.slice a l.length c) (.int k i) fun v1 => kldN sz v1 w' K := by
  obtain ⟨b, o, cs, t, f, rfl, hb, hle, hc⟩ := h.at hi hs
  rw [flat_get F sz hF l i hi] at hc
  rw [kix_slice]
  refine kG_of (by omega) ?_
  rw [add_mk]
  exact kldN_of (c := cs) (t := t) (f := f) (by unfold blk at *; rw [hw]; exact hb) (by simpa using hle) (by simpa using hc) hs hK
theorem kext_of {vs : Array Value} {i : Nat} {v : Value} {K : Value → Prop} (h : vs[i]? = some v) (hk : K v) : kext (.tuple vs) i K := by
  rw [kext_tuple, h]; exact hk
theorem kO_of {α : Type} {o : Option α} {a : α} {K : α → Prop} (h : o = some a) (hk : K a) : kO o K := by
  rw [h]; exact hk
/-- 'x[:n]' of an array. -/
theorem ksl_arr_hi {b o l n sz : Nat} {e : TypeId} {k : IntKind} {K : Value → Prop} (h : n ≤ l) (hK : K (.slice (some ⟨b, o, none⟩) n l)) : ksl (some (.array l e)) (some sz) (.pointer (some ⟨b, o, none⟩)) none (some (.int k n)) K := by
  rw [ksl_array rfl rfl]
  refine kG_of (by simp only [loV_none, hiV_int]; omega) ?_
  have e1 : (if l = (loV none).toNat then (⟨b, o, none⟩ : Addr) else Addr.add ⟨b, o, none⟩ ((loV none).toNat * sz)) = ⟨b, o, none⟩ := by
    split
    · rfl
    · simp
  have e2 : ((hiV l (some (Value.int k (n : Int)))).toNat - (loV none).toNat) = n := by simp
  have e3 : l - (loV none).toNat = l := by simp
  rw [e1, e2, e3]
  exact hK
end Go.Ev
end
section
namespace Go.Ev
open Go Go.RowKit Go.ChangeShapes
/-! ### Slices of records, read -/
theorem slIs_of_rd {α : Type} {F : α → List Value} {sz : Nat} (hF : ∀ x, (F x).length = sz) (hsz : 0 < sz) {ok : α → Prop} {P : Program} {w : World} {n : Nat} {t e : TypeId} {cs : List Value}
    (hu : P.underlying t = some (.slice e)) (he : P.cellsOf e = sz) (hel : ∀ ec, Rd P w n e ec → ∃ x, ok x ∧ F x = ec) (h : Rd P w (n + 1) t cs) :
    ∃ (a : Option Addr) (l : List α) (c : Nat), cs = [.slice a l.length c] ∧ (∀ x ∈ l, ok x) ∧ l.length ≤ c ∧ c ≤ maxLen ∧ SlIs w a l.length sz (l.flatMap F) := by
  rcases rd_slice hu h with rfl | ⟨a, len, cap, rfl, h1, h2, h3⟩
  · exact ⟨none, [], 0, rfl, by simp, by simp, by simp, SlIs.nil _ _ _⟩
  rw [he] at h3
  have key : ∀ m, m ≤ len → ∃ l : List α, l.length = m ∧ (∀ x ∈ l, ok x) ∧ ∀ i (hi : i < l.length), ∀ j, j < sz → w.cell? ((a.add (i * sz)).add j) = (F l[i])[j]? := by
    intro m
    induction m with
    | zero => intro _; exact ⟨[], rfl, by simp, by simp⟩
    | succ m ih =>
      intro hm
      obtain ⟨l, hl, hok, hc⟩ := ih (by omega)
      obtain ⟨ec, g1, g2⟩ := h3 m (by omega)
      obtain ⟨x, hx, rfl⟩ := hel ec g2
      refine ⟨l ++ [x], by simp [hl], ?_, ?_⟩
      · intro y hy
        rcases List.mem_append.1 hy with hy | hy
        · exact hok y hy
        · rw [List.mem_singleton.1 hy]; exact hx
      · intro i hi j hj
        by_cases hlt : i < l.length
        · rw [List.getElem_append_left hlt]; exact hc i hlt j hj
        · have : i = m := by simp at hi; omega
          subst this
          have e : (l ++ [x])[i]'hi = x := by rw [List.getElem_append_right (by omega)]; simp
          rw [e]
          unfold World.cells? at g1
          rw [if_pos (Nat.zero_le _)] at g1
          exact mapM_some_get g1 j j (by simp [hj])
  obtain ⟨l, hl, hok, hc⟩ := key len (Nat.le_refl _)
  refine ⟨some a, l, cap, by rw [hl], hok, by omega, h2, ?_⟩
  by_cases h0 : l.length = 0
  · have : l = [] := List.length_eq_zero_iff.1 h0
    subst this
    exact SlIs.nil _ _ _
  have hlen := flat_len F sz hF l
  refine ⟨hlen, .inr ?_⟩
  obtain ⟨b, o, s⟩ := a
  have hc0 := hc 0 (by omega) 0 hsz
  have hF0 : (F l[0])[0]? = some ((F (l[0]'(by omega)))[0]'(by rw [hF]; exact hsz)) := by rw [List.getElem?_eq_getElem]
  rw [hF0] at hc0
  have ea : Addr.add ⟨b, o, s⟩ 0 = ⟨b, o, s⟩ := rfl
  rw [Nat.zero_mul, ea, ea] at hc0
  have hb : ∃ c t f, Ev.blk w b = some (.cells c t f) ∧ s = none := by
    unfold World.cell? at hc0
    split at hc0
    · rename_i c t f hh
      refine ⟨c, t, f, hh, ?_⟩
      split at hc0
      · cases hc0
      · rename_i hs
        cases s with
        | none => rfl
        | some s => exact absurd (show (some s).isSome = true from rfl) hs
    · cases hc0
  obtain ⟨c, t', f, hb, rfl⟩ := hb
  refine ⟨b, o, c, t', f, rfl, hb, ?_⟩
  apply List.ext_getElem?
  intro k
  by_cases hk : k < l.length * sz
  · have hi : k / sz < l.length := Nat.div_lt_of_lt_mul (by rw [Nat.mul_comm]; exact hk)
    have hj : k % sz < sz := Nat.mod_lt _ hsz
    have e : k / sz * sz + k % sz = k := by rw [Nat.mul_comm]; exact Nat.div_add_mod k sz
    have h4 := hc (k / sz) hi (k % sz) hj
    rw [add_mk, add_mk, cell_mk, hb, cellO_some, Nat.add_assoc, e] at h4
    have h5 := flat_cell hF hi hj
    rw [e] at h5
    rw [List.getElem?_take_of_lt hk, List.getElem?_drop, h5, ← h4]
    simp
  · rw [List.getElem?_eq_none (by rw [List.length_take]; omega), List.getElem?_eq_none (by rw [hlen]; omega)]
end Go.Ev
end
section
namespace Go.Proofs.YtkkgakhfeldokaaGreatDoor
open Go Go.Ev
set_option linter.unusedVariables false
set_option linter.unusedSimpArgs false
set_option maxRecDepth 100000

/-! ### Numbers of 64 bits -/
def Sgn (n : Int) : Prop := -9223372036854775808 ≤ n ∧ n ≤ 9223372036854775807
theorem wrap_rng (n : Int) : Sgn (IntKind.i64.wrap n) := by
  unfold IntKind.wrap Sgn; simp [IntKind.signed, IntKind.bits]; omega
theorem wrap_turn (n : Int) : ∃ k : Int, IntKind.i64.wrap n = n + k * 18446744073709551616 := by
  unfold IntKind.wrap; simp [IntKind.signed, IntKind.bits]
  by_cases h : 9223372036854775808 ≤ n % 18446744073709551616
  · rw [if_pos h]; exact ⟨-(n / 18446744073709551616) - 1, by omega⟩
  · rw [if_neg h]; exact ⟨-(n / 18446744073709551616), by omega⟩
theorem wrap_sgn {n : Int} (h : Sgn n) : IntKind.i64.wrap n = n := wrap_i64 h.1 h.2
/-- What sub leaves of add. -/
theorem add_sub_law {y x : Int} (hy : Sgn y) (hx : Sgn x) : IntKind.i64.wrap (IntKind.i64.wrap (y + x) + IntKind.i64.wrap (0 - x)) = y := by
  obtain ⟨a, ha⟩ := wrap_turn (y + x)
  obtain ⟨b, hb⟩ := wrap_turn (0 - x)
  obtain ⟨c, hc⟩ := wrap_turn (IntKind.i64.wrap (y + x) + IntKind.i64.wrap (0 - x))
  have h1 := wrap_rng (IntKind.i64.wrap (y + x) + IntKind.i64.wrap (0 - x))
  unfold Sgn at *
  omega
def quoF (y x : Int) : Int := if x = 0 then 0 else IntKind.i64.wrap (y.tdiv x)
def modF (y x : Int) : Int := if x = 0 then 0 else IntKind.i64.wrap (y - IntKind.i64.wrap (x * quoF y x))
theorem quo_mod_law {y x : Int} (hy : Sgn y) (h0 : x ≠ 0) : IntKind.i64.wrap (IntKind.i64.wrap (quoF y x * x) + modF y x) = y := by
  unfold modF
  rw [if_neg h0, Int.mul_comm x]
  generalize quoF y x * x = p
  obtain ⟨a, ha⟩ := wrap_turn p
  obtain ⟨b, hb⟩ := wrap_turn (y - IntKind.i64.wrap p)
  obtain ⟨c, hc⟩ := wrap_turn (IntKind.i64.wrap p + IntKind.i64.wrap (y - IntKind.i64.wrap p))
  have h1 := wrap_rng (IntKind.i64.wrap p + IntKind.i64.wrap (y - IntKind.i64.wrap p))
  unfold Sgn at *
  omega
theorem mod_sign_law {y x : Int} (hy : Sgn y) (hx : Sgn x) (h0 : x ≠ 0) : modF y x = 0 ∨ (modF y x < 0 ↔ y < 0) := by
  unfold modF
  rw [if_neg h0]
  unfold quoF
  rw [if_neg h0]
  have key : x * y.tdiv x = y - y.tmod x := by have := Int.tmod_def y x; omega
  have habs : (y.tmod x).natAbs = y.natAbs % x.natAbs := Int.natAbs_tmod y x
  have hle : y.natAbs % x.natAbs ≤ y.natAbs := Nat.mod_le _ _
  have hs : (0 ≤ y → 0 ≤ y.tmod x) ∧ (y ≤ 0 → y.tmod x ≤ 0) := by
    constructor
    · exact fun h => Int.tmod_nonneg x h
    · intro h
      have := Int.tmod_nonneg x (show 0 ≤ -y by omega)
      rw [Int.neg_tmod] at this
      omega
  unfold Sgn at hy hx
  have hin : Sgn (y - y.tmod x) := by
    unfold Sgn
    by_cases h : 0 ≤ y
    · have := hs.1 h; omega
    · have := hs.2 (by omega); omega
  by_cases hq : Sgn (y.tdiv x)
  · rw [wrap_sgn hq, key, wrap_sgn hin, show y - (y - y.tmod x) = y.tmod x by omega, wrap_sgn (by unfold Sgn; omega)]
    by_cases h : 0 ≤ y
    · have := hs.1 h
      by_cases e : y.tmod x = 0
      · exact .inl e
      · right; constructor <;> intro <;> omega
    · have := hs.2 (by omega)
      by_cases e : y.tmod x = 0
      · exact .inl e
      · right; constructor <;> intro <;> omega
  · -- only the least number by -1
    have hd : (y.tdiv x).natAbs = y.natAbs / x.natAbs := Int.natAbs_tdiv y x
    have hx2 : ¬ 2 ≤ x.natAbs := by
      intro h2
      have : y.natAbs / x.natAbs ≤ y.natAbs / 2 := Nat.div_le_div_left h2 (by omega)
      apply hq
      unfold Sgn
      omega
    have hx1 : x = 1 ∨ x = -1 := by omega
    rcases hx1 with rfl | rfl
    · exact absurd (by rw [Int.tdiv_one]; exact hy) hq
    · have e : y.tdiv (-1) = -y := by rw [Int.tdiv_neg, Int.tdiv_one]
      rw [e] at hq ⊢
      have hy2 : y = -9223372036854775808 := by
        unfold Sgn at hq
        omega
      subst hy2
      left
      decide
theorem bv_wrap (n : Int) : BitVec.ofInt 64 (IntKind.i64.wrap n) = BitVec.ofInt 64 n := by
  obtain ⟨k, hk⟩ := wrap_turn n
  apply BitVec.eq_of_toNat_eq
  rw [hk, BitVec.toNat_ofInt, BitVec.toNat_ofInt]
  congr 1
  show (n + k * 18446744073709551616) % 18446744073709551616 = n % 18446744073709551616
  omega
theorem wrap_bv {n : Int} (h : Sgn n) : IntKind.i64.wrap ((BitVec.ofInt 64 n).toNat : Int) = n := by
  rw [BitVec.toNat_ofInt]
  have e : (((n % ((2 ^ 64 : Nat) : Int)).toNat : Nat) : Int) = n % 18446744073709551616 := by
    rw [Int.toNat_of_nonneg (Int.emod_nonneg _ (by decide))]
    rfl
  rw [e]
  obtain ⟨k, hk⟩ := wrap_turn (n % 18446744073709551616)
  have h1 := wrap_rng (n % 18446744073709551616)
  unfold Sgn at *
  omega
theorem xor_law {y x : Int} (hy : Sgn y) : ixor .i64 (ixor .i64 y x) x = y := by
  show IntKind.i64.wrap ((BitVec.ofInt 64 (IntKind.i64.wrap ((BitVec.ofInt 64 y ^^^ BitVec.ofInt 64 x).toNat : Int)) ^^^ BitVec.ofInt 64 x).toNat : Int) = y
  rw [bv_wrap, BitVec.ofInt_natCast, BitVec.ofNat_toNat, BitVec.setWidth_eq, BitVec.xor_assoc, BitVec.xor_self, BitVec.xor_zero]
  exact wrap_bv hy
def flagF (b : Bool) : Int := if b = true then 1 else 0
theorem flags_law (y x : Int) : IntKind.i64.wrap (IntKind.i64.wrap (flagF (decide (y < x)) + flagF (decide (x < y))) + flagF (decide (y = x))) = 1 := by
  unfold flagF
  by_cases h1 : y < x
  · have : ¬ x < y := by omega
    have : ¬ y = x := by omega
    simp [*]; decide
  · by_cases h2 : x < y
    · have : ¬ y = x := by omega
      simp [*]; decide
    · have : y = x := by omega
      simp [*]; decide
end Go.Proofs.YtkkgakhfeldokaaGreatDoor
end
section
namespace Go.Proofs.YtkkgakhfeldokaaGreatDoor
open Go Go.Ev
set_option linter.unusedVariables false
set_option maxRecDepth 100000

/-! errors.Is -/
def f17_1 (x0 : Value) (x1 : Value) (Q : Value → World → Prop) (w : World) : Prop :=
  kextf Tryz.prog 37 [x1] w fun v8 w9 =>
  kcallM Tryz.prog v8 "Comparable" [] w9 fun v10 w11 =>
  kcall Tryz.prog 38 #[x0, x1, v10] w11 fun v12 w13 =>
  Q v12 w13

def f17_0 (x0 : Value) (x1 : Value) (x11 : Value) (Q : Value → World → Prop) (w : World) : Prop :=
  kB x11 fun b14 => kIf b14
  (keq Tryz.prog .eql 36 false false x0 x1 w fun v6 w7 =>
  Q v6 w7)
  (f17_1 x0 x1 Q w)

def f17 (x0 : Value) (x1 : Value) (Q : Value → World → Prop) (w : World) : Prop :=
  keq Tryz.prog .eql 36 false true x0 .nilIface w fun v1 w2 =>
  kB v1 fun b3 => kIf (!b3)
  (keq Tryz.prog .eql 36 false true x1 .nilIface w2 fun v4 w5 =>
  f17_0 x0 x1 v4 Q w5)
  (f17_0 x0 x1 (.bool true) Q w2)

theorem f17_eq (x0 : Value) (x1 : Value) (Q : Value → World → Prop) (w : World) : f17 x0 x1 Q w = fnVC Tryz.prog Tryz.f17 [] (Tryz.f17.body.get rfl) [x0, x1] w Q := by kernel_rfl
theorem f17_ok {x0 : Value} {x1 : Value} {Q : Value → World → Prop} {w : World} (h : f17 x0 x1 Q w) : Meets Tryz.prog 17 #[x0, x1] w Q :=
  sound (c := (Tryz.f17.body.get rfl)) [] Tryz.func17 rfl rfl (args := [x0, x1]) rfl (Eq.mp (f17_eq x0 x1 Q w) h)

/-! errors.is -/
def f38_7 (x1 : Value) (x2 : Value) (x43 : Value) (x44 : Value) (x45 : Value) (J17 : Value → World → Prop) (J1 : Value → World → Prop) (Q : Value → World → Prop) (w : World) : Prop :=
  kint .i64 .add x45 (.int .i64 1) fun v33 =>
  J17 v33 w

def f38_6 (x1 : Value) (x2 : Value) (x43 : Value) (x44 : Value) (x45 : Value) (J17 : Value → World → Prop) (J1 : Value → World → Prop) (Q : Value → World → Prop) (w : World) : Prop :=
  kix (some (.slice 36)) (some 1) x43 x45 fun v29 =>
  kld v29 w fun v30 =>
  kcall Tryz.prog 38 #[v30, x1, x2] w fun v31 w32 =>
  kB v31 fun b34 => kIf b34
  (Q (.bool true) w32)
  (f38_7 x1 x2 x43 x44 x45 J17 J1 Q w32)

def f38_8 (J1 : Value → World → Prop) (Q : Value → World → Prop) (w : World) : Prop :=
  Q (.bool false) w

def f38_5 (x45 : Value) (x1 : Value) (x2 : Value) (x43 : Value) (x44 : Value) (J17 : Value → World → Prop) (J1 : Value → World → Prop) (Q : Value → World → Prop) (w : World) : Prop :=
  kint .i64 .lss x45 x44 fun v28 =>
  kB v28 fun b35 => kIf b35
  (f38_6 x1 x2 x43 x44 x45 J17 J1 Q w)
  (f38_8 J1 Q w)

def f38_4 (x0 : Value) (x1 : Value) (x2 : Value) (J1 : Value → World → Prop) (Q : Value → World → Prop) (w : World) : Prop :=
  ksem Tryz.prog (Instr.typeAssert x0 36 140 true) w fun v11 w12 =>
  kext v11 1 fun v13 =>
  kext v11 0 fun v14 =>
  kB v13 fun b37 => kIf b37
  (kcallM Tryz.prog v14 "Unwrap" [] w12 fun v15 w16 =>
  keq Tryz.prog .eql 36 false true v15 .nilIface w16 fun v17 w18 =>
  kB v17 fun b19 => kIf b19
  (Q (.bool false) w18)
  (J1 v15 w18))
  (ksem Tryz.prog (Instr.typeAssert x0 36 142 true) w12 fun v20 w21 =>
  kext v20 1 fun v22 =>
  kext v20 0 fun v23 =>
  kB v22 fun b36 => kIf b36
  (kcallM Tryz.prog v23 "Unwrap" [] w21 fun v24 w25 =>
  klen v24 fun v26 =>
  kL fun (I : Value → World → Prop) (μ : Value → World → Nat) => I (.int .i64 0) w25 ∧ ∀ (x45 : Value) (w1 : World), I x45 w1 →
  f38_5 x45 x1 x2 v24 v26 (fun y45 w2 => I y45 w2 ∧ μ y45 w2 < μ x45 w1) J1 Q w1)
  (Q (.bool false) w21))

def f38_3 (x0 : Value) (x1 : Value) (x2 : Value) (x30 : Value) (J1 : Value → World → Prop) (Q : Value → World → Prop) (w : World) : Prop :=
  kB x30 fun b38 => kIf b38
  (Q (.bool true) w)
  (f38_4 x0 x1 x2 J1 Q w)

def f38_2 (x0 : Value) (x1 : Value) (x2 : Value) (J1 : Value → World → Prop) (Q : Value → World → Prop) (w : World) : Prop :=
  ksem Tryz.prog (Instr.typeAssert x0 36 137 true) w fun v4 w5 =>
  kext v4 0 fun v6 =>
  kext v4 1 fun v7 =>
  kB v7 fun b8 => kIf b8
  (kcallM Tryz.prog v6 "Is" [x1] w5 fun v9 w10 =>
  f38_3 x0 x1 x2 v9 J1 Q w10)
  (f38_3 x0 x1 x2 (.bool false) J1 Q w5)

def f38_1 (x0 : Value) (x1 : Value) (x2 : Value) (x19 : Value) (J1 : Value → World → Prop) (Q : Value → World → Prop) (w : World) : Prop :=
  kB x19 fun b39 => kIf b39
  (Q (.bool true) w)
  (f38_2 x0 x1 x2 J1 Q w)

def f38_0 (x0 : Value) (x1 : Value) (x2 : Value) (J1 : Value → World → Prop) (Q : Value → World → Prop) (w : World) : Prop :=
  kB x2 fun b1 => kIf b1
  (keq Tryz.prog .eql 36 false false x0 x1 w fun v2 w3 =>
  f38_1 x0 x1 x2 v2 J1 Q w3)
  (f38_1 x0 x1 x2 (.bool false) J1 Q w)

def f38 (x0 : Value) (x1 : Value) (x2 : Value) (Q : Value → World → Prop) (w : World) : Prop :=
  kL fun (I : Value → World → Prop) (μ : Value → World → Nat) => I x0 w ∧ ∀ (x0 : Value) (w1 : World), I x0 w1 →
  f38_0 x0 x1 x2 (fun y0 w2 => I y0 w2 ∧ μ y0 w2 < μ x0 w1) Q w1

theorem f38_eq (x0 : Value) (x1 : Value) (x2 : Value) (Q : Value → World → Prop) (w : World) : f38 x0 x1 x2 Q w = fnVC Tryz.prog Tryz.f38 [(1, [0]), (17, [45])] (Tryz.f38.body.get rfl) [x0, x1, x2] w Q := by kernel_rfl
theorem f38_ok {x0 : Value} {x1 : Value} {x2 : Value} {Q : Value → World → Prop} {w : World} (h : f38 x0 x1 x2 Q w) : Meets Tryz.prog 38 #[x0, x1, x2] w Q :=
  sound (c := (Tryz.f38.body.get rfl)) [(1, [0]), (17, [45])] Tryz.func38 rfl rfl (args := [x0, x1, x2]) rfl (Eq.mp (f38_eq x0 x1 x2 Q w) h)

/-! pasodoble/blame.Has -/
def f97 (x0 : Value) (x1 : Value) (Q : Value → World → Prop) (w : World) : Prop :=
  kcall Tryz.prog 45 #[x1] w fun v1 w2 =>
  keq Tryz.prog .neq 36 false true v1 .nilIface w2 fun v3 w4 =>
  kB v3 fun b5 => kIf b5
  (kcall Tryz.prog 17 #[x0, v1] w4 fun v6 w7 =>
  Q v6 w7)
  (Q (.bool false) w4)

theorem f97_eq (x0 : Value) (x1 : Value) (Q : Value → World → Prop) (w : World) : f97 x0 x1 Q w = fnVC Tryz.prog Tryz.f97 [] (Tryz.f97.body.get rfl) [x0, x1] w Q := by kernel_rfl
theorem f97_ok {x0 : Value} {x1 : Value} {Q : Value → World → Prop} {w : World} (h : f97 x0 x1 Q w) : Meets Tryz.prog 97 #[x0, x1] w Q :=
  sound (c := (Tryz.f97.body.get rfl)) [] Tryz.func97 rfl rfl (args := [x0, x1]) rfl (Eq.mp (f97_eq x0 x1 Q w) h)

/-! pasodoble/blame.Number -/
def f69_3 (x0 : Value) (x6 : Value) (J4 : Value → World → Prop) (Q : Value → World → Prop) (w : World) : Prop :=
  kint .i64 .add x6 (.int .i64 1) fun v8 =>
  J4 v8 w

def f69_2 (x0 : Value) (x6 : Value) (J4 : Value → World → Prop) (Q : Value → World → Prop) (w : World) : Prop :=
  kint .i64 .add x6 (.int .i64 1) fun v4 =>
  kcall Tryz.prog 97 #[x0, v4] w fun v5 w6 =>
  kB v5 fun b9 => kIf b9
  (kint .i64 .add x6 (.int .i64 1) fun v7 =>
  Q v7 w6)
  (f69_3 x0 x6 J4 Q w6)

def f69_4 (Q : Value → World → Prop) (w : World) : Prop :=
  Q (.int .i64 (-1)) w

def f69_1 (x6 : Value) (x0 : Value) (J4 : Value → World → Prop) (Q : Value → World → Prop) (w : World) : Prop :=
  kint .i64 .lss x6 (.int .i64 18) fun v3 =>
  kB v3 fun b10 => kIf b10
  (f69_2 x0 x6 J4 Q w)
  (f69_4 Q w)

def f69_0 (x0 : Value) (Q : Value → World → Prop) (w : World) : Prop :=
  kL fun (I : Value → World → Prop) (μ : Value → World → Nat) => I (.int .i64 0) w ∧ ∀ (x6 : Value) (w1 : World), I x6 w1 →
  f69_1 x6 x0 (fun y6 w2 => I y6 w2 ∧ μ y6 w2 < μ x6 w1) Q w1

def f69 (x0 : Value) (Q : Value → World → Prop) (w : World) : Prop :=
  keq Tryz.prog .eql 36 false true x0 .nilIface w fun v1 w2 =>
  kB v1 fun b11 => kIf b11
  (Q (.int .i64 0) w2)
  (f69_0 x0 Q w2)

theorem f69_eq (x0 : Value) (Q : Value → World → Prop) (w : World) : f69 x0 Q w = fnVC Tryz.prog Tryz.f69 [(4, [6])] (Tryz.f69.body.get rfl) [x0] w Q := by kernel_rfl
theorem f69_ok {x0 : Value} {Q : Value → World → Prop} {w : World} (h : f69 x0 Q w) : Meets Tryz.prog 69 #[x0] w Q :=
  sound (c := (Tryz.f69.body.get rfl)) [(4, [6])] Tryz.func69 rfl rfl (args := [x0]) rfl (Eq.mp (f69_eq x0 Q w) h)

/-! pasodoble/blame.At -/
def f25_0 (x0 : Value) (x1 : Value) (Q : Value → World → Prop) (w : World) : Prop :=
  kbld [(.string ⟨#[]⟩), .nilIface] [(0, 1, x0), (1, 1, x1)] fun v3 =>
  knew (Value.cells v3) 118 w fun v4 w5 =>
  Q (.iface 116 v4) w5

def f25 (x0 : Value) (x1 : Value) (Q : Value → World → Prop) (w : World) : Prop :=
  keq Tryz.prog .eql 36 false true x1 .nilIface w fun v1 w2 =>
  kB v1 fun b6 => kIf b6
  (Q .nilIface w2)
  (f25_0 x0 x1 Q w2)

theorem f25_eq (x0 : Value) (x1 : Value) (Q : Value → World → Prop) (w : World) : f25 x0 x1 Q w = fnVC Tryz.prog Tryz.f25 [] (Tryz.f25.body.get rfl) [x0, x1] w Q := by kernel_rfl
theorem f25_ok {x0 : Value} {x1 : Value} {Q : Value → World → Prop} {w : World} (h : f25 x0 x1 Q w) : Meets Tryz.prog 25 #[x0, x1] w Q :=
  sound (c := (Tryz.f25.body.get rfl)) [] Tryz.func25 rfl rfl (args := [x0, x1]) rfl (Eq.mp (f25_eq x0 x1 Q w) h)

/-! pasodoble/blame.All -/
def f24_0 (x3 : Value) (Q : Value → World → Prop) (w : World) : Prop :=
  kbld [(.slice none 0 0)] [(0, 1, x3)] fun v9 =>
  knew (Value.cells v9) 115 w fun v10 w11 =>
  Q (.iface 113 v10) w11

def f24 (x0 : Value) (Q : Value → World → Prop) (w : World) : Prop :=
  kcall Tryz.prog 46 #[x0] w fun v1 w2 =>
  klen v1 fun v3 =>
  kint .i64 .eql v3 (.int .i64 0) fun v5 =>
  kB v5 fun b13 => kIf b13
  (Q .nilIface w2)
  (kint .i64 .eql v3 (.int .i64 1) fun v6 =>
  kB v6 fun b12 => kIf b12
  (kix (some (.slice 36)) (some 1) v1 (.int .i64 0) fun v7 =>
  kld v7 w2 fun v8 =>
  Q v8 w2)
  (f24_0 v1 Q w2))

theorem f24_eq (x0 : Value) (Q : Value → World → Prop) (w : World) : f24 x0 Q w = fnVC Tryz.prog Tryz.f24 [] (Tryz.f24.body.get rfl) [x0] w Q := by kernel_rfl
theorem f24_ok {x0 : Value} {Q : Value → World → Prop} {w : World} (h : f24 x0 Q w) : Meets Tryz.prog 24 #[x0] w Q :=
  sound (c := (Tryz.f24.body.get rfl)) [] Tryz.func24 rfl rfl (args := [x0]) rfl (Eq.mp (f24_eq x0 Q w) h)

/-! pasodoble/blame.flat -/
def f46_2 (x2 : Value) (x8 : Value) (x9 : Value) (x10 : Value) (J2 : Value → Value → World → Prop) (Q : Value → World → Prop) (w : World) : Prop :=
  kint .i64 .add x10 (.int .i64 1) fun v8 =>
  J2 x2 v8 w

def f46_1 (x2 : Value) (x8 : Value) (x9 : Value) (x10 : Value) (J2 : Value → Value → World → Prop) (Q : Value → World → Prop) (w : World) : Prop :=
  kix (some (.slice 36)) (some 1) x8 x10 fun v4 =>
  kld v4 w fun v5 =>
  keq Tryz.prog .eql 36 false true v5 .nilIface w fun v6 w7 =>
  kB v6 fun b23 => kIf b23
  (f46_2 x2 x8 x9 x10 J2 Q w7)
  (kta 113 (.pointer none) true v5 fun v9 =>
  kext v9 1 fun v10 =>
  kext v9 0 fun v11 =>
  kB v10 fun b22 => kIf b22
  (kcall Tryz.prog 67 #[v11] w7 fun v12 w13 =>
  kcall Tryz.prog 46 #[v12] w13 fun v14 w15 =>
  ksem Tryz.prog (Builtin.append_ #[106, 106] 0 #[x2, v14]) w15 fun v16 w17 =>
  f46_2 v16 x8 x9 x10 J2 Q w17)
  (kbldS [.nilIface] 1 [(0, 1, v5)] 36 w7 fun v18 w19 =>
  ksem Tryz.prog (Builtin.append_ #[106, 106] 0 #[x2, v18]) w19 fun v20 w21 =>
  f46_2 v20 x8 x9 x10 J2 Q w21))

def f46_3 (x2 : Value) (Q : Value → World → Prop) (w : World) : Prop :=
  Q x2 w

def f46_0 (x2 : Value) (x10 : Value) (x8 : Value) (x9 : Value) (J2 : Value → Value → World → Prop) (Q : Value → World → Prop) (w : World) : Prop :=
  kint .i64 .lss x10 x9 fun v3 =>
  kB v3 fun b24 => kIf b24
  (f46_1 x2 x8 x9 x10 J2 Q w)
  (f46_3 x2 Q w)

def f46 (x0 : Value) (Q : Value → World → Prop) (w : World) : Prop :=
  klen x0 fun v1 =>
  kL fun (I : Value → Value → World → Prop) (μ : Value → Value → World → Nat) => I (.slice none 0 0) (.int .i64 0) w ∧ ∀ (x2 x10 : Value) (w1 : World), I x2 x10 w1 →
  f46_0 x2 x10 x0 v1 (fun y2 y10 w2 => I y2 y10 w2 ∧ μ y2 y10 w2 < μ x2 x10 w1) Q w1

theorem f46_eq (x0 : Value) (Q : Value → World → Prop) (w : World) : f46 x0 Q w = fnVC Tryz.prog Tryz.f46 [(2, [2, 10])] (Tryz.f46.body.get rfl) [x0] w Q := by kernel_rfl
theorem f46_ok {x0 : Value} {Q : Value → World → Prop} {w : World} (h : f46 x0 Q w) : Meets Tryz.prog 46 #[x0] w Q :=
  sound (c := (Tryz.f46.body.get rfl)) [(2, [2, 10])] Tryz.func46 rfl rfl (args := [x0]) rfl (Eq.mp (f46_eq x0 Q w) h)

/-! pasodoble/blame.Leaves -/
def f19 (x0 : Value) (Q : Value → World → Prop) (w : World) : Prop :=
  kcall Tryz.prog 41 #[(.slice none 0 0), x0] w fun v1 w2 =>
  Q v1 w2

theorem f19_eq (x0 : Value) (Q : Value → World → Prop) (w : World) : f19 x0 Q w = fnVC Tryz.prog Tryz.f19 [] (Tryz.f19.body.get rfl) [x0] w Q := by kernel_rfl
theorem f19_ok {x0 : Value} {Q : Value → World → Prop} {w : World} (h : f19 x0 Q w) : Meets Tryz.prog 19 #[x0] w Q :=
  sound (c := (Tryz.f19.body.get rfl)) [] Tryz.func19 rfl rfl (args := [x0]) rfl (Eq.mp (f19_eq x0 Q w) h)

/-! (*pasodoble/blame.Blame).Unwrap -/
def f66_0 (x0 : Value) (Q : Value → World → Prop) (w : World) : Prop :=
  kN x0 <|
  kfld 1 x0 fun v3 =>
  kld v3 w fun v4 =>
  Q v4 w

def f66 (x0 : Value) (Q : Value → World → Prop) (w : World) : Prop :=
  keq Tryz.prog .eql 116 false true x0 (.pointer none) w fun v1 w2 =>
  kB v1 fun b5 => kIf b5
  (Q .nilIface w2)
  (f66_0 x0 Q w2)

theorem f66_eq (x0 : Value) (Q : Value → World → Prop) (w : World) : f66 x0 Q w = fnVC Tryz.prog Tryz.f66 [] (Tryz.f66.body.get rfl) [x0] w Q := by kernel_rfl
theorem f66_ok {x0 : Value} {Q : Value → World → Prop} {w : World} (h : f66 x0 Q w) : Meets Tryz.prog 66 #[x0] w Q :=
  sound (c := (Tryz.f66.body.get rfl)) [] Tryz.func66 rfl rfl (args := [x0]) rfl (Eq.mp (f66_eq x0 Q w) h)

/-! (*pasodoble/blame.Several).Unwrap -/
def f67_0 (x0 : Value) (Q : Value → World → Prop) (w : World) : Prop :=
  kN x0 <|
  kfld 0 x0 fun v3 =>
  kld v3 w fun v4 =>
  kcall Tryz.prog 93 #[v4] w fun v5 w6 =>
  Q v5 w6

def f67 (x0 : Value) (Q : Value → World → Prop) (w : World) : Prop :=
  keq Tryz.prog .eql 113 false true x0 (.pointer none) w fun v1 w2 =>
  kB v1 fun b7 => kIf b7
  (Q (.slice none 0 0) w2)
  (f67_0 x0 Q w2)

theorem f67_eq (x0 : Value) (Q : Value → World → Prop) (w : World) : f67 x0 Q w = fnVC Tryz.prog Tryz.f67 [] (Tryz.f67.body.get rfl) [x0] w Q := by kernel_rfl
theorem f67_ok {x0 : Value} {Q : Value → World → Prop} {w : World} (h : f67 x0 Q w) : Meets Tryz.prog 67 #[x0] w Q :=
  sound (c := (Tryz.f67.body.get rfl)) [] Tryz.func67 rfl rfl (args := [x0]) rfl (Eq.mp (f67_eq x0 Q w) h)

/-! slices.Clone[[]string,string] -/
def f65_0 (x0 : Value) (Q : Value → World → Prop) (w : World) : Prop :=
  kbldS [(.string ⟨#[]⟩)] 0 [] 9 w fun v3 w4 =>
  ksem Tryz.prog (Builtin.append_ #[153, 153] 0 #[v3, x0]) w4 fun v5 w6 =>
  Q v5 w6

def f65 (x0 : Value) (Q : Value → World → Prop) (w : World) : Prop :=
  keq Tryz.prog .eql 153 false true x0 (.slice none 0 0) w fun v1 w2 =>
  kB v1 fun b7 => kIf b7
  (Q (.slice none 0 0) w2)
  (f65_0 x0 Q w2)

theorem f65_eq (x0 : Value) (Q : Value → World → Prop) (w : World) : f65 x0 Q w = fnVC Tryz.prog Tryz.f65 [] (Tryz.f65.body.get rfl) [x0] w Q := by kernel_rfl
theorem f65_ok {x0 : Value} {Q : Value → World → Prop} {w : World} (h : f65 x0 Q w) : Meets Tryz.prog 65 #[x0] w Q :=
  sound (c := (Tryz.f65.body.get rfl)) [] Tryz.func65 rfl rfl (args := [x0]) rfl (Eq.mp (f65_eq x0 Q w) h)

/-! slices.Clone[[]error,error] -/
def f93_0 (x0 : Value) (Q : Value → World → Prop) (w : World) : Prop :=
  kbldS [.nilIface] 0 [] 36 w fun v3 w4 =>
  ksem Tryz.prog (Builtin.append_ #[106, 106] 0 #[v3, x0]) w4 fun v5 w6 =>
  Q v5 w6

def f93 (x0 : Value) (Q : Value → World → Prop) (w : World) : Prop :=
  keq Tryz.prog .eql 106 false true x0 (.slice none 0 0) w fun v1 w2 =>
  kB v1 fun b7 => kIf b7
  (Q (.slice none 0 0) w2)
  (f93_0 x0 Q w2)

theorem f93_eq (x0 : Value) (Q : Value → World → Prop) (w : World) : f93 x0 Q w = fnVC Tryz.prog Tryz.f93 [] (Tryz.f93.body.get rfl) [x0] w Q := by kernel_rfl
theorem f93_ok {x0 : Value} {Q : Value → World → Prop} {w : World} (h : f93 x0 Q w) : Meets Tryz.prog 93 #[x0] w Q :=
  sound (c := (Tryz.f93.body.get rfl)) [] Tryz.func93 rfl rfl (args := [x0]) rfl (Eq.mp (f93_eq x0 Q w) h)

/-! strings.Join -/
def f68_6 (x0 : Value) (x1 : Value) (x5 : Value) (x39 : Value) (x40 : Value) (x41 : Value) (J12 : Value → Value → World → Prop) (Q : Value → World → Prop) (w : World) : Prop :=
  kint .i64 .add x41 (.int .i64 1) fun v36 =>
  J12 x5 v36 w

def f68_5 (x0 : Value) (x1 : Value) (x5 : Value) (x7 : Value) (x39 : Value) (x40 : Value) (x41 : Value) (J12 : Value → Value → World → Prop) (Q : Value → World → Prop) (w : World) : Prop :=
  klenStr x7 fun v33 =>
  kint .i64 .add x5 v33 fun v35 =>
  f68_6 x0 x1 v35 x39 x40 x41 J12 Q w

def f68_4 (x0 : Value) (x1 : Value) (x5 : Value) (x39 : Value) (x40 : Value) (x41 : Value) (J12 : Value → Value → World → Prop) (Q : Value → World → Prop) (w : World) : Prop :=
  kix (some (.slice 9)) (some 1) x39 x41 fun v27 =>
  kld v27 w fun v28 =>
  klenStr v28 fun v29 =>
  kint .i64 .sub (.int .i64 9223372036854775807) x5 fun v31 =>
  kint .i64 .gtr v29 v31 fun v32 =>
  kB v32 fun b37 => kIf b37
  (False)
  (f68_5 x0 x1 x5 v28 x39 x40 x41 J12 Q w)

def f68_10 (x1 : Value) (x8 : Value) (x63 : Value) (x64 : Value) (x65 : Value) (J22 : Value → World → Prop) (Q : Value → World → Prop) (w : World) : Prop :=
  kint .i64 .add x65 (.int .i64 1) fun v56 =>
  J22 v56 w

def f68_9 (x1 : Value) (x8 : Value) (x63 : Value) (x64 : Value) (x65 : Value) (J22 : Value → World → Prop) (Q : Value → World → Prop) (w : World) : Prop :=
  kix (some (.slice 9)) (some 1) x63 x65 fun v50 =>
  kld v50 w fun v51 =>
  kcall Tryz.prog 95 #[x8, x1] w fun v52 w53 =>
  kcall Tryz.prog 95 #[x8, v51] w53 fun v54 w55 =>
  f68_10 x1 x8 x63 x64 x65 J22 Q w55

def f68_11 (x8 : Value) (Q : Value → World → Prop) (w : World) : Prop :=
  kcall Tryz.prog 96 #[x8] w fun v57 w58 =>
  Q v57 w58

def f68_8 (x65 : Value) (x1 : Value) (x8 : Value) (x63 : Value) (x64 : Value) (J22 : Value → World → Prop) (Q : Value → World → Prop) (w : World) : Prop :=
  kint .i64 .lss x65 x64 fun v49 =>
  kB v49 fun b59 => kIf b59
  (f68_9 x1 x8 x63 x64 x65 J22 Q w)
  (f68_11 x8 Q w)

def f68_7 (x0 : Value) (x1 : Value) (x5 : Value) (Q : Value → World → Prop) (w : World) : Prop :=
  knew #[(.pointer none), (.slice none 0 0)] 187 w fun v38 w39 =>
  kcall Tryz.prog 94 #[v38, x5] w39 fun v40 w41 =>
  kix (some (.slice 9)) (some 1) x0 (.int .i64 0) fun v42 =>
  kld v42 w41 fun v43 =>
  kcall Tryz.prog 95 #[v38, v43] w41 fun v44 w45 =>
  ksl (some (.slice 9)) (some 1) x0 (some (.int .i64 1)) none fun v46 =>
  klen v46 fun v47 =>
  kL fun (I : Value → World → Prop) (μ : Value → World → Nat) => I (.int .i64 0) w45 ∧ ∀ (x65 : Value) (w1 : World), I x65 w1 →
  f68_8 x65 x1 v38 v46 v47 (fun y65 w2 => I y65 w2 ∧ μ y65 w2 < μ x65 w1) Q w1

def f68_3 (x5 : Value) (x41 : Value) (x0 : Value) (x1 : Value) (x39 : Value) (x40 : Value) (J12 : Value → Value → World → Prop) (Q : Value → World → Prop) (w : World) : Prop :=
  kint .i64 .lss x41 x40 fun v26 =>
  kB v26 fun b60 => kIf b60
  (f68_4 x0 x1 x5 x39 x40 x41 J12 Q w)
  (f68_7 x0 x1 x5 Q w)

def f68_2 (x0 : Value) (x1 : Value) (x5 : Value) (Q : Value → World → Prop) (w : World) : Prop :=
  klen x0 fun v24 =>
  kL fun (I : Value → Value → World → Prop) (μ : Value → Value → World → Nat) => I x5 (.int .i64 0) w ∧ ∀ (x5 x41 : Value) (w1 : World), I x5 x41 w1 →
  f68_3 x5 x41 x0 x1 x0 v24 (fun y5 y41 w2 => I y5 y41 w2 ∧ μ y5 y41 w2 < μ x5 x41 w1) Q w1

def f68_1 (x0 : Value) (x1 : Value) (x5 : Value) (Q : Value → World → Prop) (w : World) : Prop :=
  klenStr x1 fun v17 =>
  klen x0 fun v19 =>
  kint .i64 .sub v19 (.int .i64 1) fun v21 =>
  kint .i64 .mul v17 v21 fun v22 =>
  kint .i64 .add x5 v22 fun v23 =>
  f68_2 x0 x1 v23 Q w

def f68_0 (x0 : Value) (x1 : Value) (Q : Value → World → Prop) (w : World) : Prop :=
  klenStr x1 fun v7 =>
  kint .i64 .gtr v7 (.int .i64 0) fun v9 =>
  kB v9 fun b62 => kIf b62
  (klenStr x1 fun v10 =>
  klen x0 fun v12 =>
  kint .i64 .sub v12 (.int .i64 1) fun v14 =>
  kint .i64 .quo (.int .i64 9223372036854775807) v14 fun v15 =>
  kint .i64 .geq v10 v15 fun v16 =>
  kB v16 fun b61 => kIf b61
  (False)
  (f68_1 x0 x1 (.int .i64 0) Q w))
  (f68_2 x0 x1 (.int .i64 0) Q w)

def f68 (x0 : Value) (x1 : Value) (Q : Value → World → Prop) (w : World) : Prop :=
  klen x0 fun v1 =>
  kint .i64 .eql v1 (.int .i64 0) fun v3 =>
  kB v3 fun b64 => kIf b64
  (Q (.string ⟨#[]⟩) w)
  (kint .i64 .eql v1 (.int .i64 1) fun v4 =>
  kB v4 fun b63 => kIf b63
  (kix (some (.slice 9)) (some 1) x0 (.int .i64 0) fun v5 =>
  kld v5 w fun v6 =>
  Q v6 w)
  (f68_0 x0 x1 Q w))

theorem f68_eq (x0 : Value) (x1 : Value) (Q : Value → World → Prop) (w : World) : f68 x0 x1 Q w = fnVC Tryz.prog Tryz.f68 [(12, [5, 41]), (22, [65])] (Tryz.f68.body.get rfl) [x0, x1] w Q := by kernel_rfl
theorem f68_ok {x0 : Value} {x1 : Value} {Q : Value → World → Prop} {w : World} (h : f68 x0 x1 Q w) : Meets Tryz.prog 68 #[x0, x1] w Q :=
  sound (c := (Tryz.f68.body.get rfl)) [(12, [5, 41]), (22, [65])] Tryz.func68 rfl rfl (args := [x0, x1]) rfl (Eq.mp (f68_eq x0 x1 Q w) h)

/-! (*strings.Builder).Grow -/
def f94_0 (x0 : Value) (x1 : Value) (Q : Value → World → Prop) (w : World) : Prop :=
  kN x0 <|
  kfld 1 x0 fun v4 =>
  kld v4 w.drew fun v5 =>
  kG (w.drew = w.drew) <|
  kcap v5 fun v6 =>
  kN x0 <|
  kfld 1 x0 fun v8 =>
  kld v8 w.drew fun v9 =>
  kG (w.drew = w.drew) <|
  klen v9 fun v10 =>
  kint .i64 .sub v6 v10 fun v12 =>
  kint .i64 .lss v12 x1 fun v13 =>
  kB v13 fun b16 => kIf b16
  (kcall Tryz.prog 130 #[x0, x1] w.drew fun v14 w15 =>
  Q (.tuple #[]) w15)
  (Q (.tuple #[]) w.drew)

def f94 (x0 : Value) (x1 : Value) (Q : Value → World → Prop) (w : World) : Prop :=
  kcall Tryz.prog 129 #[x0] w fun v1 w2 =>
  kint .i64 .lss x1 (.int .i64 0) fun v3 =>
  kB v3 fun b17 => kIf b17
  (False)
  (f94_0 x0 x1 Q w2)

theorem f94_eq (x0 : Value) (x1 : Value) (Q : Value → World → Prop) (w : World) : f94 x0 x1 Q w = fnVC Tryz.prog Tryz.f94 [] (Tryz.f94.body.get rfl) [x0, x1] w Q := by kernel_rfl
theorem f94_ok {x0 : Value} {x1 : Value} {Q : Value → World → Prop} {w : World} (h : f94 x0 x1 Q w) : Meets Tryz.prog 94 #[x0, x1] w Q :=
  sound (c := (Tryz.f94.body.get rfl)) [] Tryz.func94 rfl rfl (args := [x0, x1]) rfl (Eq.mp (f94_eq x0 x1 Q w) h)

/-! (*strings.Builder).WriteString -/
def f95 (x0 : Value) (x1 : Value) (Q : Value → World → Prop) (w : World) : Prop :=
  kcall Tryz.prog 129 #[x0] w fun v1 w2 =>
  kN x0 <|
  kfld 1 x0 fun v3 =>
  kld v3 w2 fun v4 =>
  ksem Tryz.prog (Builtin.append_ #[185, 9] 0 #[v4, x1]) w2 fun v5 w6 =>
  kN x0 <|
  kfld 1 x0 fun v7 =>
  kst 1 v7 v5 w6 fun w8 =>
  klenStr x1 fun v9 =>
  Q (.tuple #[v9, .nilIface]) w8

theorem f95_eq (x0 : Value) (x1 : Value) (Q : Value → World → Prop) (w : World) : f95 x0 x1 Q w = fnVC Tryz.prog Tryz.f95 [] (Tryz.f95.body.get rfl) [x0, x1] w Q := by kernel_rfl
theorem f95_ok {x0 : Value} {x1 : Value} {Q : Value → World → Prop} {w : World} (h : f95 x0 x1 Q w) : Meets Tryz.prog 95 #[x0, x1] w Q :=
  sound (c := (Tryz.f95.body.get rfl)) [] Tryz.func95 rfl rfl (args := [x0, x1]) rfl (Eq.mp (f95_eq x0 x1 Q w) h)

/-! (*strings.Builder).String -/
def f96 (x0 : Value) (Q : Value → World → Prop) (w : World) : Prop :=
  kN x0 <|
  kfld 1 x0 fun v1 =>
  kld v1 w.drew fun v2 =>
  kG (w.drew = w.drew) <|
  ksem Tryz.prog (Builtin.unsafeSliceData_ #[185] 244 #[v2]) w.drew fun v3 w4 =>
  kN x0 <|
  kfld 1 x0 fun v5 =>
  kld v5 w4 fun v6 =>
  kG (w4 = w4) <|
  kG (kld v5 w.drew fun v11 =>
  v11 = v6 ∧ w.drew = w.drew) <|
  klen v6 fun v7 =>
  ksem Tryz.prog (Builtin.unsafeString_ #[244, 3] 9 #[v3, v7]) w4 fun v9 w10 =>
  Q v9 w10

theorem f96_eq (x0 : Value) (Q : Value → World → Prop) (w : World) : f96 x0 Q w = fnVC Tryz.prog Tryz.f96 [] (Tryz.f96.body.get rfl) [x0] w Q := by kernel_rfl
theorem f96_ok {x0 : Value} {Q : Value → World → Prop} {w : World} (h : f96 x0 Q w) : Meets Tryz.prog 96 #[x0] w Q :=
  sound (c := (Tryz.f96.body.get rfl)) [] Tryz.func96 rfl rfl (args := [x0]) rfl (Eq.mp (f96_eq x0 Q w) h)

/-! (*strings.Builder).copyCheck -/
def f129 (x0 : Value) (Q : Value → World → Prop) (w : World) : Prop :=
  kN x0 <|
  kfld 0 x0 fun v1 =>
  kld v1 w fun v2 =>
  keq Tryz.prog .eql 184 false true v2 (.pointer none) w fun v3 w4 =>
  kB v3 fun b18 => kIf b18
  (ksem Tryz.prog (convert 184 276 x0) w4 fun v5 w6 =>
  kextf Tryz.prog 160 [v5] w6 fun v7 w8 =>
  ksem Tryz.prog (convert 276 184 v7) w8 fun v9 w10 =>
  kN x0 <|
  kfld 0 x0 fun v11 =>
  kst 1 v11 v9 w10 fun w12 =>
  Q (.tuple #[]) w12)
  (kN x0 <|
  kfld 0 x0 fun v13 =>
  kld v13 w4 fun v14 =>
  keq Tryz.prog .neq 184 false false v14 x0 w4 fun v15 w16 =>
  kB v15 fun b17 => kIf b17
  (False)
  (Q (.tuple #[]) w16))

theorem f129_eq (x0 : Value) (Q : Value → World → Prop) (w : World) : f129 x0 Q w = fnVC Tryz.prog Tryz.f129 [] (Tryz.f129.body.get rfl) [x0] w Q := by kernel_rfl
theorem f129_ok {x0 : Value} {Q : Value → World → Prop} {w : World} (h : f129 x0 Q w) : Meets Tryz.prog 129 #[x0] w Q :=
  sound (c := (Tryz.f129.body.get rfl)) [] Tryz.func129 rfl rfl (args := [x0]) rfl (Eq.mp (f129_eq x0 Q w) h)

/-! (*strings.Builder).grow -/
def f130 (x0 : Value) (x1 : Value) (Q : Value → World → Prop) (w : World) : Prop :=
  kN x0 <|
  kfld 1 x0 fun v1 =>
  kld v1 w.drew fun v2 =>
  kG (w.drew = w.drew) <|
  kcap v2 fun v3 =>
  kint .i64 .mul (.int .i64 2) v3 fun v5 =>
  kint .i64 .add v5 x1 fun v6 =>
  kextf Tryz.prog 161 [v6] w.drew fun v7 w8 =>
  kN x0 <|
  kfld 1 x0 fun v9 =>
  kld v9 w8 fun v10 =>
  kG (w8 = w8) <|
  kG (kld v9 w.drew fun v20 =>
  v20 = v10 ∧ w.drew = w.drew) <|
  klen v10 fun v11 =>
  ksl (some (.slice 5)) (some 1) v7 none (some v11) fun v13 =>
  kN x0 <|
  kfld 1 x0 fun v14 =>
  kld v14 w8 fun v15 =>
  ksem Tryz.prog (Builtin.copy_ #[185, 185] 0 #[v13, v15]) w8 fun v16 w17 =>
  kN x0 <|
  kfld 1 x0 fun v18 =>
  kst 1 v18 v13 w17 fun w19 =>
  Q (.tuple #[]) w19

theorem f130_eq (x0 : Value) (x1 : Value) (Q : Value → World → Prop) (w : World) : f130 x0 x1 Q w = fnVC Tryz.prog Tryz.f130 [] (Tryz.f130.body.get rfl) [x0, x1] w Q := by kernel_rfl
theorem f130_ok {x0 : Value} {x1 : Value} {Q : Value → World → Prop} {w : World} (h : f130 x0 x1 Q w) : Meets Tryz.prog 130 #[x0, x1] w Q :=
  sound (c := (Tryz.f130.body.get rfl)) [] Tryz.func130 rfl rfl (args := [x0, x1]) rfl (Eq.mp (f130_eq x0 x1 Q w) h)

/-! pasodoble/blame.Of -/
def f45_0 (Q : Value → World → Prop) (w : World) : Prop :=
  Q .nilIface w

def f45 (x0 : Value) (Q : Value → World → Prop) (w : World) : Prop :=
  kint .i64 .eql x0 (.int .i64 1) fun v1 =>
  kB v1 fun b54 => kIf b54
  (kld (.pointer (some ⟨3, 0, none⟩)) w fun v2 =>
  Q v2 w)
  (kint .i64 .eql x0 (.int .i64 2) fun v3 =>
  kB v3 fun b53 => kIf b53
  (kld (.pointer (some ⟨4, 0, none⟩)) w fun v4 =>
  Q v4 w)
  (kint .i64 .eql x0 (.int .i64 3) fun v5 =>
  kB v5 fun b52 => kIf b52
  (kld (.pointer (some ⟨10, 0, none⟩)) w fun v6 =>
  Q v6 w)
  (kint .i64 .eql x0 (.int .i64 4) fun v7 =>
  kB v7 fun b51 => kIf b51
  (kld (.pointer (some ⟨5, 0, none⟩)) w fun v8 =>
  Q v8 w)
  (kint .i64 .eql x0 (.int .i64 5) fun v9 =>
  kB v9 fun b50 => kIf b50
  (kld (.pointer (some ⟨11, 0, none⟩)) w fun v10 =>
  Q v10 w)
  (kint .i64 .eql x0 (.int .i64 6) fun v11 =>
  kB v11 fun b49 => kIf b49
  (kld (.pointer (some ⟨7, 0, none⟩)) w fun v12 =>
  Q v12 w)
  (kint .i64 .eql x0 (.int .i64 7) fun v13 =>
  kB v13 fun b48 => kIf b48
  (kld (.pointer (some ⟨12, 0, none⟩)) w fun v14 =>
  Q v14 w)
  (kint .i64 .eql x0 (.int .i64 8) fun v15 =>
  kB v15 fun b47 => kIf b47
  (kld (.pointer (some ⟨13, 0, none⟩)) w fun v16 =>
  Q v16 w)
  (kint .i64 .eql x0 (.int .i64 9) fun v17 =>
  kB v17 fun b46 => kIf b46
  (kld (.pointer (some ⟨2, 0, none⟩)) w fun v18 =>
  Q v18 w)
  (kint .i64 .eql x0 (.int .i64 10) fun v19 =>
  kB v19 fun b45 => kIf b45
  (kld (.pointer (some ⟨14, 0, none⟩)) w fun v20 =>
  Q v20 w)
  (kint .i64 .eql x0 (.int .i64 11) fun v21 =>
  kB v21 fun b44 => kIf b44
  (kld (.pointer (some ⟨6, 0, none⟩)) w fun v22 =>
  Q v22 w)
  (kint .i64 .eql x0 (.int .i64 12) fun v23 =>
  kB v23 fun b43 => kIf b43
  (kld (.pointer (some ⟨1, 0, none⟩)) w fun v24 =>
  Q v24 w)
  (kint .i64 .eql x0 (.int .i64 13) fun v25 =>
  kB v25 fun b42 => kIf b42
  (kld (.pointer (some ⟨9, 0, none⟩)) w fun v26 =>
  Q v26 w)
  (kint .i64 .eql x0 (.int .i64 14) fun v27 =>
  kB v27 fun b41 => kIf b41
  (kld (.pointer (some ⟨8, 0, none⟩)) w fun v28 =>
  Q v28 w)
  (kint .i64 .eql x0 (.int .i64 15) fun v29 =>
  kB v29 fun b40 => kIf b40
  (kld (.pointer (some ⟨0, 0, none⟩)) w fun v30 =>
  Q v30 w)
  (kint .i64 .eql x0 (.int .i64 16) fun v31 =>
  kB v31 fun b39 => kIf b39
  (kld (.pointer (some ⟨15, 0, none⟩)) w fun v32 =>
  Q v32 w)
  (kint .i64 .eql x0 (.int .i64 17) fun v33 =>
  kB v33 fun b38 => kIf b38
  (kld (.pointer (some ⟨16, 0, none⟩)) w fun v34 =>
  Q v34 w)
  (kint .i64 .eql x0 (.int .i64 18) fun v35 =>
  kB v35 fun b37 => kIf b37
  (kld (.pointer (some ⟨17, 0, none⟩)) w fun v36 =>
  Q v36 w)
  (f45_0 Q w))))))))))))))))))

theorem f45_eq (x0 : Value) (Q : Value → World → Prop) (w : World) : f45 x0 Q w = fnVC Tryz.prog Tryz.f45 [] (Tryz.f45.body.get rfl) [x0] w Q := by kernel_rfl
theorem f45_ok {x0 : Value} {Q : Value → World → Prop} {w : World} (h : f45 x0 Q w) : Meets Tryz.prog 45 #[x0] w Q :=
  sound (c := (Tryz.f45.body.get rfl)) [] Tryz.func45 rfl rfl (args := [x0]) rfl (Eq.mp (f45_eq x0 Q w) h)

/-! pasodoble/blame.walk -/
def f41_2 (x0 : Value) (x4 : Value) (x30 : Value) (x31 : Value) (x32 : Value) (J11 : Value → Value → World → Prop) (Q : Value → World → Prop) (w : World) : Prop :=
  kint .i64 .add x32 (.int .i64 1) fun v46 =>
  J11 x4 v46 w

def f41_1 (x0 : Value) (x4 : Value) (x30 : Value) (x31 : Value) (x32 : Value) (J11 : Value → Value → World → Prop) (Q : Value → World → Prop) (w : World) : Prop :=
  kix (some (.slice 36)) (some 1) x30 x32 fun v40 =>
  kld v40 w fun v41 =>
  kcall Tryz.prog 41 #[x0, v41] w fun v42 w43 =>
  ksem Tryz.prog (Builtin.append_ #[69, 69] 0 #[x4, v42]) w43 fun v44 w45 =>
  f41_2 x0 v44 x30 x31 x32 J11 Q w45

def f41_3 (x4 : Value) (Q : Value → World → Prop) (w : World) : Prop :=
  Q x4 w

def f41_0 (x4 : Value) (x32 : Value) (x0 : Value) (x30 : Value) (x31 : Value) (J11 : Value → Value → World → Prop) (Q : Value → World → Prop) (w : World) : Prop :=
  kint .i64 .lss x32 x31 fun v39 =>
  kB v39 fun b47 => kIf b47
  (f41_1 x0 x4 x30 x31 x32 J11 Q w)
  (f41_3 x4 Q w)

def f41_4 (x0 : Value) (x1 : Value) (Q : Value → World → Prop) (w : World) : Prop :=
  kcall Tryz.prog 68 #[x0, (.string ⟨#[47]⟩)] w fun v48 w49 =>
  kcall Tryz.prog 69 #[x1] w49 fun v50 w51 =>
  kbld [(.string ⟨#[]⟩), (.int .i64 0)] [(0, 1, v48), (1, 1, v50)] fun v52 =>
  kbldS [(.string ⟨#[]⟩), (.int .i64 0)] 1 [(0, 2, v52)] 72 w51 fun v53 w54 =>
  Q v53 w54

def f41 (x0 : Value) (x1 : Value) (Q : Value → World → Prop) (w : World) : Prop :=
  keq Tryz.prog .eql 36 false true x1 .nilIface w fun v1 w2 =>
  kB v1 fun b57 => kIf b57
  (Q (.slice none 0 0) w2)
  (kta 116 (.pointer none) true x1 fun v3 =>
  kext v3 1 fun v4 =>
  kext v3 0 fun v5 =>
  kB v4 fun b56 => kIf b56
  ((kcall Tryz.prog 65 #[x0] w2.drew fun v6 w7 =>
  kN v5 <|
  kfld 0 v5 fun v8 =>
  kld v8 w7 fun v9 =>
  kG (w7 = w7) <|
  kG (kld v8 w2.drew fun v18 =>
  v18 = v9 ∧ w2.drew = w2.drew) <|
  kbldS [(.string ⟨#[]⟩)] 1 [(0, 1, v9)] 9 w7 fun v10 w11 =>
  ksem Tryz.prog (Builtin.append_ #[153, 153] 0 #[v6, v10]) w11 fun v12 w13 =>
  kcall Tryz.prog 66 #[v5] w13 fun v14 w15 =>
  kcall Tryz.prog 41 #[v12, v14] w15 fun v16 w17 =>
  Q v16 w17) ∧
  (kN v5 <|
  kfld 0 v5 fun v19 =>
  kld v19 w2.drew fun v20 =>
  kG (w2.drew = w2.drew) <|
  kbldS [(.string ⟨#[]⟩)] 1 [(0, 1, v20)] 9 w2.drew fun v21 w22 =>
  kcall Tryz.prog 65 #[x0] w22 fun v23 w24 =>
  kG (kld v19 w24 fun v31 =>
  v31 = v20 ∧ w24 = w24) <|
  ksem Tryz.prog (Builtin.append_ #[153, 153] 0 #[v23, v21]) w24 fun v25 w26 =>
  kcall Tryz.prog 66 #[v5] w26 fun v27 w28 =>
  kcall Tryz.prog 41 #[v25, v27] w28 fun v29 w30 =>
  Q v29 w30))
  (kta 113 (.pointer none) true x1 fun v32 =>
  kext v32 1 fun v33 =>
  kext v32 0 fun v34 =>
  kB v33 fun b55 => kIf b55
  (kcall Tryz.prog 67 #[v34] w2 fun v35 w36 =>
  klen v35 fun v37 =>
  kL fun (I : Value → Value → World → Prop) (μ : Value → Value → World → Nat) => I (.slice none 0 0) (.int .i64 0) w36 ∧ ∀ (x4 x32 : Value) (w1 : World), I x4 x32 w1 →
  f41_0 x4 x32 x0 v35 v37 (fun y4 y32 w2 => I y4 y32 w2 ∧ μ y4 y32 w2 < μ x4 x32 w1) Q w1)
  (f41_4 x0 x1 Q w2)))

theorem f41_eq (x0 : Value) (x1 : Value) (Q : Value → World → Prop) (w : World) : f41 x0 x1 Q w = fnVC Tryz.prog Tryz.f41 [(11, [4, 32])] (Tryz.f41.body.get rfl) [x0, x1] w Q := by kernel_rfl
theorem f41_ok {x0 : Value} {x1 : Value} {Q : Value → World → Prop} {w : World} (h : f41 x0 x1 Q w) : Meets Tryz.prog 41 #[x0, x1] w Q :=
  sound (c := (Tryz.f41.body.get rfl)) [(11, [4, 32])] Tryz.func41 rfl rfl (args := [x0, x1]) rfl (Eq.mp (f41_eq x0 x1 Q w) h)

end Go.Proofs.YtkkgakhfeldokaaGreatDoor
end
section
namespace Go.Proofs.YtkkgakhfeldokaaGreatDoor
open Go Go.Ev
set_option linter.unusedVariables false
set_option linter.unusedSimpArgs false
set_option maxRecDepth 100000

/-! ### Errors -/
def tErr : Nat := 36
def tSen : Nat := 334
def tBla : Nat := 116
def tSev : Nat := 113
theorem ifErr : isIfT Tryz.prog 36 = true := by kernel_rfl
theorem cmpSen : cmpT Tryz.prog 334 = true := by kernel_rfl
theorem taIs : taB Tryz.prog 334 137 = some false := by kernel_rfl
theorem taUn : taB Tryz.prog 334 140 = some false := by kernel_rfl
theorem taUs : taB Tryz.prog 334 142 = some false := by kernel_rfl
theorem zIs : (Tryz.prog.info? 137).map (·.zero) = some (some .nilIface) := by kernel_rfl
theorem zUn : (Tryz.prog.info? 140).map (·.zero) = some (some .nilIface) := by kernel_rfl
theorem zUs : (Tryz.prog.info? 142).map (·.zero) = some (some .nilIface) := by kernel_rfl
theorem ptBla : isPtrT Tryz.prog 116 = true := by kernel_rfl
theorem ptSev : isPtrT Tryz.prog 113 = true := by kernel_rfl
theorem slErr : isSlT Tryz.prog 106 = true := by kernel_rfl
theorem slStr : isSlT Tryz.prog 153 = true := by kernel_rfl
theorem apErr : appT Tryz.prog 106 1 16 = true := by kernel_rfl
theorem apStr : appT Tryz.prog 153 1 16 = true := by kernel_rfl
theorem apLeaf : appT Tryz.prog 69 2 24 = true := by kernel_rfl

/-- The variable of an error's number. -/
def gErr : Nat → Nat
  | 1 => 3 | 2 => 4 | 3 => 10 | 4 => 5 | 5 => 11 | 6 => 7 | 7 => 12 | 8 => 13 | 9 => 2
  | 10 => 14 | 11 => 6 | 12 => 1 | 13 => 9 | 14 => 8 | 15 => 0 | 16 => 15 | 17 => 16 | _ => 17
def errV (S : Nat → Addr) (k : Nat) : Value := .iface 334 (.pointer (some (S k)))
/-- The first N sentinels lie where they were laid. -/
structure LaidN (N : Nat) (S : Nat → Addr) (w : World) : Prop where
  glob : ∀ k, 1 ≤ k → k ≤ N → ∃ c t f, blk w (gErr k) = some (.cells c t f) ∧ c[0]? = some (errV S k)
  ne : ∀ j k, 1 ≤ j → j ≤ N → 1 ≤ k → k ≤ N → j ≠ k → S j ≠ S k
  live : ∀ k, 1 ≤ k → k ≤ N → ∃ c t, blk w (S k).block = some (.cells c t (0, 0))
abbrev LaidE := LaidN 18
/-- The sentinels of some numbers lie where they were laid. -/
structure LaidP (p : Nat → Prop) (S : Nat → Addr) (w : World) : Prop where
  glob : ∀ k, p k → ∃ c t f, blk w (gErr k) = some (.cells c t f) ∧ c[0]? = some (errV S k)
  ne : ∀ j k, p j → p k → j ≠ k → S j ≠ S k
  live : ∀ k, p k → ∃ c t, blk w (S k).block = some (.cells c t (0, 0))
theorem LaidP.mod {p : Nat → Prop} {fp : Nat → Prop} {S : Nat → Addr} {w w' : World} (h : LaidP p S w) (hm : Mod fp w w') (hf : ∀ k, p k → ¬ fp (gErr k) ∧ ¬ fp (S k).block) : LaidP p S w' where
  glob k h1 := by
    obtain ⟨c, t, f, hb, hc⟩ := h.glob k h1
    exact ⟨c, t, f, hm.get hb (hf k h1).1, hc⟩
  ne := h.ne
  live k h1 := by
    obtain ⟨c, t, hb⟩ := h.live k h1
    exact ⟨c, t, hm.get hb (hf k h1).2⟩
theorem LaidP.same {p : Nat → Prop} {S : Nat → Addr} {w w' : World} (h : LaidP p S w) (hm : Same w w') : LaidP p S w' := h.mod hm fun _ _ => ⟨fun h => h, fun h => h⟩
theorem LaidP.lt {p : Nat → Prop} {S : Nat → Addr} {w : World} (h : LaidP p S w) {k : Nat} (h1 : p k) : gErr k < w.heap.size ∧ (S k).block < w.heap.size := by
  obtain ⟨c, t, f, hb, _⟩ := h.glob k h1
  obtain ⟨c', t', hb'⟩ := h.live k h1
  exact ⟨lt_of_blk hb, lt_of_blk hb'⟩
/-- What is new does not touch them. -/
theorem LaidP.new {p : Nat → Prop} {S : Nat → Addr} {w0 w w' : World} (h0 : LaidP p S w0) (h : LaidP p S w) (hm : Mod (fun k => w0.heap.size ≤ k) w w') : LaidP p S w' :=
  h.mod hm fun k hk => by have := h0.lt hk; omega
theorem LaidN.toP {N : Nat} {S : Nat → Addr} {w : World} (h : LaidN N S w) : LaidP (fun k => 1 ≤ k ∧ k ≤ N) S w :=
  ⟨fun k hk => h.glob k hk.1 hk.2, fun j k hj hk => h.ne j k hj.1 hj.2 hk.1 hk.2, fun k hk => h.live k hk.1 hk.2⟩
theorem LaidN.mod {N : Nat} {fp : Nat → Prop} {S : Nat → Addr} {w w' : World} (h : LaidN N S w) (hm : Mod fp w w') (hf : ∀ k, 1 ≤ k → k ≤ N → ¬ fp (gErr k) ∧ ¬ fp (S k).block) : LaidN N S w' where
  glob k h1 h2 := by
    obtain ⟨c, t, f, hb, hc⟩ := h.glob k h1 h2
    exact ⟨c, t, f, hm.get hb (hf k h1 h2).1, hc⟩
  ne := h.ne
  live k h1 h2 := by
    obtain ⟨c, t, hb⟩ := h.live k h1 h2
    exact ⟨c, t, hm.get hb (hf k h1 h2).2⟩
theorem LaidN.same {N : Nat} {S : Nat → Addr} {w w' : World} (h : LaidN N S w) (hm : Same w w') : LaidN N S w' := h.mod hm fun _ _ _ => ⟨fun h => h, fun h => h⟩
/-- What is written from w0's end on leaves them. -/
theorem LaidN.lt {N : Nat} {S : Nat → Addr} {w : World} (h : LaidN N S w) {k : Nat} (h1 : 1 ≤ k) (h2 : k ≤ N) : gErr k < w.heap.size ∧ (S k).block < w.heap.size := by
  obtain ⟨c, t, f, hb, _⟩ := h.glob k h1 h2
  obtain ⟨c', t', hb'⟩ := h.live k h1 h2
  exact ⟨lt_of_blk hb, lt_of_blk hb'⟩
/-- A sentinel's variable, read. -/
theorem LaidN.read {N : Nat} {S : Nat → Addr} {w : World} (h : LaidN N S w) {k g : Nat} (h1 : 1 ≤ k) (h2 : k ≤ N) (hg : gErr k = g) : cellO (blk w g) 0 = some (errV S k) := by
  obtain ⟨c, t, f, hb, hc⟩ := h.glob k h1 h2
  rw [← hg, hb]; exact hc

theorem of_spec {S : Nat → Addr} {w : World} (hL : LaidE S w) (k : Nat) (h1 : 1 ≤ k) (h2 : k ≤ 18) : Meets Tryz.prog 45 #[.int .i64 k] w fun v w' => v = errV S k ∧ w' = w := by
  refine f45_ok ?_
  unfold f45
  have hk : k = 1 ∨ k = 2 ∨ k = 3 ∨ k = 4 ∨ k = 5 ∨ k = 6 ∨ k = 7 ∨ k = 8 ∨ k = 9 ∨ k = 10 ∨ k = 11 ∨ k = 12 ∨ k = 13 ∨ k = 14 ∨ k = 15 ∨ k = 16 ∨ k = 17 ∨ k = 18 := by omega
  rcases hk with rfl | rfl | rfl | rfl | rfl | rfl | rfl | rfl | rfl | rfl | rfl | rfl | rfl | rfl | rfl | rfl | rfl | rfl <;>
    (have hr := hL.read h1 h2 rfl
     simp only [gErr] at hr
     simp -dsimp [hr])

theorem is_spec {N : Nat} {S : Nat → Addr} {w : World} (hL : LaidN N S w) (j k : Nat) (j1 : 1 ≤ j) (j2 : j ≤ N) (k1 : 1 ≤ k) (k2 : k ≤ N) : Meets Tryz.prog 38 #[errV S j, errV S k, .bool true] w fun v w' => v = .bool (decide (j = k)) ∧ w' = w := by
  refine f38_ok ?_
  unfold f38
  refine kL_of (fun x wr => x = errV S j ∧ wr = w) (fun _ _ => 0) ⟨⟨rfl, rfl⟩, ?_⟩
  rintro x wr ⟨rfl, rfl⟩
  unfold f38_0
  simp -dsimp
  by_cases h : j = k
  · subst h
    rw [errV, keq_if_same ifErr cmpSen]
    unfold f38_1
    simp -dsimp
  · obtain ⟨cj, tj, hj⟩ := hL.live j j1 j2
    obtain ⟨ck, tk, hk⟩ := hL.live k k1 k2
    rw [errV, errV, keq_if_other ifErr cmpSen (hL.ne j k j1 j2 k1 k2 h) hj hk]
    unfold f38_1
    simp -dsimp
    unfold f38_2
    rw [ksem_ta_no taIs zIs]
    simp -dsimp
    unfold f38_3
    simp -dsimp
    unfold f38_4
    rw [ksem_ta_no taUn zUn]
    simp -dsimp
    rw [ksem_ta_no taUs zUs]
    simp -dsimp [h]

theorem Is_cmp (x0 v : Value) (Q : Value → World → Prop) (w : World) : f17_1 x0 (.iface 334 v) Q w = kcall Tryz.prog 38 #[x0, .iface 334 v, .bool true] w (fun v12 w13 => Q v12 w13) := by kernel_rfl
theorem Is_spec {N : Nat} {S : Nat → Addr} {w : World} (hL : LaidN N S w) (j k : Nat) (j1 : 1 ≤ j) (j2 : j ≤ N) (k1 : 1 ≤ k) (k2 : k ≤ N) : Meets Tryz.prog 17 #[errV S j, errV S k] w fun v w' => v = .bool (decide (j = k)) ∧ w' = w := by
  refine f17_ok ?_
  unfold f17 f17_0
  rw [errV, keq_if_nil ifErr]
  simp -dsimp
  rw [errV, keq_if_nil ifErr]
  simp -dsimp
  rw [Is_cmp]
  refine kcall_of (is_spec hL j k j1 j2 k1 k2) ?_
  rintro v w' ⟨rfl, rfl⟩
  exact ⟨rfl, rfl⟩

theorem Has_spec {S : Nat → Addr} {w : World} (hL : LaidE S w) (j k : Nat) (j1 : 1 ≤ j) (j2 : j ≤ 18) (k1 : 1 ≤ k) (k2 : k ≤ 18) : Meets Tryz.prog 97 #[errV S j, .int .i64 k] w fun v w' => v = .bool (decide (j = k)) ∧ w' = w := by
  refine f97_ok ?_
  unfold f97
  refine kcall_of (of_spec hL k k1 k2) ?_
  rintro v w' ⟨rfl, rfl⟩
  rw [errV, keq_if_nil' ifErr]
  simp -dsimp
  refine kcall_of (Is_spec hL j k j1 j2 k1 k2) ?_
  rintro v w' ⟨rfl, rfl⟩
  exact ⟨rfl, rfl⟩

theorem Number_spec {S : Nat → Addr} {w : World} (hL : LaidE S w) (j : Nat) (j1 : 1 ≤ j) (j2 : j ≤ 18) : Meets Tryz.prog 69 #[errV S j] w fun v w' => v = .int .i64 j ∧ w' = w := by
  refine f69_ok ?_
  unfold f69
  rw [errV, keq_if_nil ifErr]
  simp -dsimp
  unfold f69_0
  refine kL_of (fun x wr => ∃ i : Nat, i < j ∧ x = .int .i64 i ∧ wr = w) (fun x _ => 18 - (RowKit.intOf x).toNat) ⟨⟨0, by omega, rfl, rfl⟩, ?_⟩
  rintro x wr ⟨i, hi, rfl, rfl⟩
  unfold f69_1
  have e : IntKind.i64.wrap ((i : Int) + 1) = ((i + 1 : Nat) : Int) := by rw [wrap_i64 (by omega) (by omega)]; simp
  simp -dsimp [show (i : Int) < 18 by omega]
  unfold f69_2
  simp -dsimp [e]
  refine kcall_of (Has_spec hL j (i + 1) j1 j2 (by omega) (by omega)) ?_
  rintro v w' ⟨rfl, rfl⟩
  simp -dsimp
  refine kIf_dec (fun h => ?_) (fun h => ?_)
  · simp -dsimp [h, e]
  · unfold f69_3
    simp -dsimp [e]
    exact ⟨⟨i + 1, by omega, rfl⟩, by simp [RowKit.intOf]; omega⟩
end Go.Proofs.YtkkgakhfeldokaaGreatDoor
end
section
namespace Go.Proofs.YtkkgakhfeldokaaGreatDoor
open Go Go.Ev
set_option linter.unusedVariables false
set_option linter.unusedSimpArgs false
set_option maxRecDepth 100000

/-! ### Errors with where they are, several at once -/
abbrev Leaf := List ByteArray × Nat
def joinP : List ByteArray → ByteArray
  | [] => ⟨#[]⟩
  | x :: xs => xs.foldl (fun a y => a ++ ⟨#[47]⟩ ++ y) x
/-- v is an error of at most d levels with the leaves ls. -/
def ErrIs (S : Nat → Addr) (w : World) : Nat → Value → List Leaf → Prop
  | 0, v, ls => ∃ k, 1 ≤ k ∧ k ≤ 18 ∧ v = errV S k ∧ ls = [([], k)]
  | d + 1, v, ls => ErrIs S w d v ls ∨
      (∃ b wh u ls' t f, v = .iface 116 (.pointer (some ⟨b, 0, none⟩)) ∧ blk w b = some (.cells #[.string wh, u] t f) ∧ ErrIs S w d u ls' ∧ ls = ls'.map (fun l => (wh :: l.1, l.2))) ∨
      (∃ (b : Nat) (a : Option Addr) (n c : Nat) (zs : List (Value × List Leaf)) (t : TypeId) (f : Nat × Nat), v = .iface 113 (.pointer (some ⟨b, 0, none⟩)) ∧ blk w b = some (.cells #[.slice a n c] t f) ∧ SlIs w a n 1 (zs.map (·.1)) ∧ zs ≠ [] ∧
        (∀ p ∈ zs, ErrIs S w d p.1 p.2) ∧ ls = zs.flatMap (·.2))
theorem ErrIs.same {S : Nat → Addr} {w w' : World} (hm : Same w w') : ∀ {d : Nat} {v : Value} {ls : List Leaf}, ErrIs S w d v ls → ErrIs S w' d v ls
  | 0, _, _, h => h
  | d + 1, v, ls, h => by
    rcases h with h | ⟨b, wh, u, ls', t, f, h1, h2, h3, h4⟩ | ⟨b, a, n, c, zs, t, f, h1, h2, h3, h4, h5, h6⟩
    · exact .inl (h.same hm)
    · exact .inr (.inl ⟨b, wh, u, ls', t, f, h1, hm.get h2 (fun h => h), h3.same hm, h4⟩)
    · exact .inr (.inr ⟨b, a, n, c, zs, t, f, h1, hm.get h2 (fun h => h), h3.same hm, h4, fun p hp => (h5 p hp).same hm, h6⟩)
theorem ErrIs.up {S : Nat → Addr} {w : World} {d d' : Nat} {v : Value} {ls : List Leaf} (h : ErrIs S w d v ls) (hd : d ≤ d') : ErrIs S w d' v ls := by
  induction hd with
  | refl => exact h
  | step _ ih => exact .inl ih
theorem ErrIs.pos {S : Nat → Addr} {w : World} : ∀ {d : Nat} {v : Value} {ls : List Leaf}, ErrIs S w d v ls → 1 ≤ ls.length
  | 0, v, ls, ⟨k, _, _, _, e⟩ => by simp [e]
  | d + 1, v, ls, h => by
    rcases h with h | ⟨b, wh, u, ls', t, f, h1, h2, h3, h4⟩ | ⟨b, a, n, c, zs, t, f, h1, h2, h3, h4, h5, h6⟩
    · exact h.pos
    · have := h3.pos; simp [h4]; omega
    · cases zs with
      | nil => exact absurd rfl h4
      | cons x zs =>
        have := (h5 x (by simp)).pos
        simp [h6, List.flatMap_cons]; omega
theorem ErrIs.cases {S : Nat → Addr} {w : World} : ∀ {d : Nat} {v : Value} {ls : List Leaf}, ErrIs S w d v ls →
    (∃ k, 1 ≤ k ∧ k ≤ 18 ∧ v = errV S k ∧ ls = [([], k)]) ∨
      (∃ d', d' < d ∧ ∃ b wh u ls' t f, v = .iface 116 (.pointer (some ⟨b, 0, none⟩)) ∧ blk w b = some (.cells #[.string wh, u] t f) ∧ ErrIs S w d' u ls' ∧ ls = ls'.map (fun l => (wh :: l.1, l.2))) ∨
      (∃ d', d' < d ∧ ∃ (b : Nat) (a : Option Addr) (n c : Nat) (zs : List (Value × List Leaf)) (t : TypeId) (f : Nat × Nat), v = .iface 113 (.pointer (some ⟨b, 0, none⟩)) ∧ blk w b = some (.cells #[.slice a n c] t f) ∧ SlIs w a n 1 (zs.map (·.1)) ∧ zs ≠ [] ∧
        (∀ p ∈ zs, ErrIs S w d' p.1 p.2) ∧ ls = zs.flatMap (·.2))
  | 0, v, ls, h => .inl h
  | d + 1, v, ls, h => by
    rcases h with h | h | h
    · rcases h.cases with h | ⟨d', hd, h⟩ | ⟨d', hd, h⟩
      · exact .inl h
      · exact .inr (.inl ⟨d', by omega, h⟩)
      · exact .inr (.inr ⟨d', by omega, h⟩)
    · exact .inr (.inl ⟨d, by omega, h⟩)
    · exact .inr (.inr ⟨d, by omega, h⟩)
theorem ErrIs.one {S : Nat → Addr} {w : World} {d : Nat} {v : Value} {ls : List Leaf} (h : ErrIs S w d v ls) : ∃ t u, v = .iface t u := by
  rcases h.cases with ⟨k, _, _, rfl, _⟩ | ⟨d', _, b, wh, u, ls', t, f, rfl, _⟩ | ⟨d', _, b, a, n, c, zs, t, f, rfl, _⟩ <;> exact ⟨_, _, rfl⟩
/-- An error, or none. -/
def ErrO (S : Nat → Addr) (w : World) (d : Nat) (v : Value) (ls : List Leaf) : Prop := (v = .nilIface ∧ ls = []) ∨ ErrIs S w d v ls
theorem ErrO.same {S : Nat → Addr} {w w' : World} {d : Nat} {v : Value} {ls : List Leaf} (h : ErrO S w d v ls) (hm : Same w w') : ErrO S w' d v ls := h.imp id fun h => h.same hm
theorem ErrO.up {S : Nat → Addr} {w : World} {d d' : Nat} {v : Value} {ls : List Leaf} (h : ErrO S w d v ls) (hd : d ≤ d') : ErrO S w d' v ls := h.imp id fun h => h.up hd
theorem ErrO.nil_iff {S : Nat → Addr} {w : World} {d : Nat} {v : Value} {ls : List Leaf} (h : ErrO S w d v ls) : (ls = [] ∧ v = .nilIface) ∨ (ls ≠ [] ∧ ∃ t u, v = .iface t u) := by
  rcases h with ⟨h1, h2⟩ | h
  · exact .inl ⟨h2, h1⟩
  · exact .inr ⟨fun e => by have := h.pos; simp [e] at this, h.one⟩

theorem At_spec {S : Nat → Addr} {w : World} {d : Nat} {u : Value} {ls : List Leaf} (hu : ErrO S w d u ls) (wh : ByteArray) : Meets Tryz.prog 25 #[.string wh, u] w fun v w' => ErrO S w' (d + 1) v (ls.map fun l => (wh :: l.1, l.2)) ∧ Same w w' := by
  refine f25_ok ?_
  unfold f25
  rcases hu with ⟨rfl, rfl⟩ | hu
  · rw [keq_nil_nil ifErr]
    simp -dsimp
    exact ⟨.inl ⟨rfl, rfl⟩, Mod.refl _ _⟩
  · obtain ⟨t, x, rfl⟩ := hu.one
    rw [keq_if_nil ifErr]
    unfold f25_0
    simp -dsimp
    have hs : ∀ o, Same w (w.alloc o) := fun o => (Mod.refl _ _).alloc o
    exact ⟨.inr (.inr (.inl ⟨_, wh, _, ls, _, _, rfl, alloc_heap_new _ _, hu.same (hs _), rfl⟩)), hs _⟩
end Go.Proofs.YtkkgakhfeldokaaGreatDoor
end
section
namespace Go.Proofs.YtkkgakhfeldokaaGreatDoor
open Go Go.Ev
set_option linter.unusedVariables false
set_option linter.unusedSimpArgs false
set_option maxRecDepth 100000

theorem Mod.after {fp : Nat → Prop} {a b c : World} (h : Same a b) (k : Mod fp b c) (hf : ∀ b, fp b → a.heap.size ≤ b) : Same a c := h.trans' (k.mono fun i _ hi => .inr (hf i hi))
theorem vblk_new {B o n c b : Nat} (h : vblk (.slice (some ⟨B, o, none⟩) n c) b) : b = B := by
  obtain ⟨_, _, _, e⟩ := h; cases e; rfl
theorem same_alloc (w : World) (o : Obj) : Same w (w.alloc o) := (Mod.refl _ _).alloc o

theorem cloneE_spec {w : World} {a : Option Addr} {n c : Nat} {us : List Value} (hs : SlIs w a n 1 us) (h1 : oneCells us = true) (hn : us.length ≤ 1099511627776) :
    Meets Tryz.prog 93 #[.slice a n c] w fun v w' => Own w' v 1 us ∧ Same w w' ∧ (∀ b, vblk v b → w.heap.size ≤ b) := by
  refine f93_ok ?_
  unfold f93
  rw [keq_sl_nil slErr]
  simp -dsimp
  cases a with
  | none =>
    have : n = 0 := by rcases hs.2 with h | ⟨_, _, _, _, _, h, _⟩; exact h; cases h
    subst this
    have : us = [] := by simpa using hs.1
    subst this
    simp -dsimp
    exact ⟨Own.nil _ _, Mod.refl _ _, fun b hb => by obtain ⟨_, _, _, h⟩ := hb; cases h⟩
  | some a =>
    simp -dsimp
    unfold f93_0
    simp -dsimp
    refine ksem_append apErr (by omega) (vs := []) (Own.new (arr := #[]) (n := 0) (by simp) (by simp [maxLen])) (Src.ofSlIs (hk := (slT_of (P := Tryz.prog) (t := 106) (by kernel_rfl)).choose_spec) c (hs.same (same_alloc _ _)) h1) (by simpa using by omega) (by simpa using by omega) ?_
    intro v' w' ho hm hf
    refine ⟨by simpa using ho, Mod.after (same_alloc _ _) hm (fun b hb => by rw [vblk_new hb]; exact Nat.le_refl _), fun b hb => ?_⟩
    rcases hf b hb with h | h
    · rw [vblk_new h]; exact Nat.le_refl _
    · simp at h; omega

theorem cloneS_spec {w : World} {a : Option Addr} {n c : Nat} {us : List Value} (hs : SlIs w a n 1 us) (h1 : oneCells us = true) (hn : us.length ≤ 1099511627776) :
    Meets Tryz.prog 65 #[.slice a n c] w fun v w' => Own w' v 1 us ∧ Same w w' ∧ (∀ b, vblk v b → w.heap.size ≤ b) := by
  refine f65_ok ?_
  unfold f65
  rw [keq_sl_nil slStr]
  simp -dsimp
  cases a with
  | none =>
    have : n = 0 := by rcases hs.2 with h | ⟨_, _, _, _, _, h, _⟩; exact h; cases h
    subst this
    have : us = [] := by simpa using hs.1
    subst this
    simp -dsimp
    exact ⟨Own.nil _ _, Mod.refl _ _, fun b hb => by obtain ⟨_, _, _, h⟩ := hb; cases h⟩
  | some a =>
    simp -dsimp
    unfold f65_0
    simp -dsimp
    refine ksem_append apStr (by omega) (vs := []) (Own.new (arr := #[]) (n := 0) (by simp) (by simp [maxLen])) (Src.ofSlIs (hk := (slT_of (P := Tryz.prog) (t := 153) (by kernel_rfl)).choose_spec) c (hs.same (same_alloc _ _)) h1) (by simpa using by omega) (by simpa using by omega) ?_
    intro v' w' ho hm hf
    refine ⟨by simpa using ho, Mod.after (same_alloc _ _) hm (fun b hb => by rw [vblk_new hb]; exact Nat.le_refl _), fun b hb => ?_⟩
    rcases hf b hb with h | h
    · rw [vblk_new h]; exact Nat.le_refl _
    · simp at h; omega

theorem unwrapB_spec {w : World} {b : Nat} {wh u : Value} {t : TypeId} {f : Nat × Nat} (hb : blk w b = some (.cells #[wh, u] t f)) : Meets Tryz.prog 66 #[.pointer (some ⟨b, 0, none⟩)] w fun v w' => v = u ∧ w' = w := by
  refine f66_ok ?_
  unfold f66
  rw [keq_ptr_nil ptBla]
  simp -dsimp
  unfold f66_0
  simp -dsimp [hb]

theorem unwrapS_spec {w : World} {b : Nat} {t : TypeId} {f : Nat × Nat} {a : Option Addr} {n c : Nat} {us : List Value} (hb : blk w b = some (.cells #[.slice a n c] t f)) (hs : SlIs w a n 1 us) (h1 : oneCells us = true) (hn : us.length ≤ 1099511627776) :
    Meets Tryz.prog 67 #[.pointer (some ⟨b, 0, none⟩)] w fun v w' => Own w' v 1 us ∧ Same w w' ∧ (∀ b, vblk v b → w.heap.size ≤ b) := by
  refine f67_ok ?_
  unfold f67
  rw [keq_ptr_nil ptSev]
  simp -dsimp
  unfold f67_0
  simp -dsimp [hb]
  refine kcall_of (cloneE_spec hs h1 hn) ?_
  rintro v w' h
  simpa using h
end Go.Proofs.YtkkgakhfeldokaaGreatDoor
end
section
namespace Go.Proofs.YtkkgakhfeldokaaGreatDoor
open Go Go.Ev
set_option linter.unusedVariables false
set_option linter.unusedSimpArgs false
set_option maxRecDepth 100000

theorem SlIs.new {w : World} {t : TypeId} {arr : Array Value} {n sz : Nat} (h : arr.size = n * sz) : SlIs (w.alloc (.cells arr t)) (some ⟨w.heap.size, 0, none⟩) n sz arr.toList :=
  ⟨by simpa using h, .inr ⟨_, 0, arr, t, _, rfl, alloc_heap_new _ _, by rw [List.drop_zero, ← h, ← Array.length_toList, List.take_length]⟩⟩
theorem slErr_is : ∃ e, Tryz.prog.underlying 106 = some (.slice e) := slT_of (by kernel_rfl)
theorem slStr_is : ∃ e, Tryz.prog.underlying 153 = some (.slice e) := slT_of (by kernel_rfl)
theorem slLeaf_is : ∃ e, Tryz.prog.underlying 69 = some (.slice e) := slT_of (by kernel_rfl)
theorem errs_one {S : Nat → Addr} {w : World} {d : Nat} : ∀ {zs : List (Value × List Leaf)}, (∀ p ∈ zs, ErrIs S w d p.1 p.2) → oneCells (zs.map (·.1)) = true
  | [], _ => rfl
  | p :: zs, h => by
    obtain ⟨t, u, e⟩ := (h p (by simp)).one
    have := errs_one (zs := zs) fun q hq => h q (by simp [hq])
    simp [oneCells, e, Value.oneCell', this]
theorem errs_len {S : Nat → Addr} {w : World} {d : Nat} : ∀ {zs : List (Value × List Leaf)}, (∀ p ∈ zs, ErrIs S w d p.1 p.2) → zs.length ≤ (zs.flatMap (·.2)).length
  | [], _ => by simp
  | p :: zs, h => by
    have h1 := (h p (by simp)).pos
    have := errs_len (zs := zs) fun q hq => h q (by simp [hq])
    rw [List.flatMap_cons, List.length_append, List.length_cons]; omega
theorem i64_succ {i : Nat} (h : i < 4611686018427387904) : IntKind.i64.wrap ((i : Int) + 1) = ((i + 1 : Nat) : Int) := by rw [wrap_i64 (by omega) (by omega)]; simp

def FlatInv (S : Nat → Addr) (w0 w : World) (d : Nat) (zs : List (Value × List Leaf)) (x y : Value) (wr : World) : Prop := ∃ (i : Nat) (zs' : List (Value × List Leaf)), i ≤ zs.length ∧ y = .int .i64 i ∧ Own wr x 1 (zs'.map (·.1)) ∧ (∀ p ∈ zs', ErrIs S w0 d p.1 p.2) ∧ zs'.flatMap (·.2) = (zs.take i).flatMap (·.2) ∧ Same w wr ∧ ∀ b, vblk x b → w.heap.size ≤ b
theorem flat_spec {S : Nat → Addr} {w0 : World} (d : Nat) : ∀ (w : World) (zs : List (Value × List Leaf)) (a : Option Addr) (n c : Nat), Same w0 w → SlIs w a n 1 (zs.map (·.1)) → (∀ p ∈ zs, ErrO S w0 d p.1 p.2) →
    (zs.flatMap (·.2)).length ≤ 1099511627776 → zs.length ≤ 1099511627776 →
    Meets Tryz.prog 46 #[.slice a n c] w fun v w' => ∃ zs' : List (Value × List Leaf), Own w' v 1 (zs'.map (·.1)) ∧ (∀ p ∈ zs', ErrIs S w0 d p.1 p.2) ∧ zs'.flatMap (·.2) = zs.flatMap (·.2) ∧ Same w w' ∧ ∀ b, vblk v b → w.heap.size ≤ b := by
  induction d using Nat.strongRecOn with
  | ind d ih =>
  intro w zs a n c h0 hs hz hlen hlen2
  have hn : n = zs.length := by have := hs.1; simpa using this.symm
  subst hn
  refine f46_ok ?_
  unfold f46
  simp -dsimp
  refine kL_of (FlatInv S w0 w d zs)
    (fun _ y _ => zs.length - (RowKit.intOf y).toNat) ⟨⟨0, [], by omega, rfl, Own.nil _ _, by simp, by simp, Mod.refl _ _, fun b hb => by obtain ⟨_, _, _, h⟩ := hb; cases h⟩, ?_⟩
  rintro x y wr ⟨i, zs', hi, rfl, hown, hzs', hfl, hm, hf⟩
  unfold f46_0
  simp -dsimp
  refine kIf_dec (fun hlt => ?_) (fun hge => ?_)
  · have hlt : i < zs.length := by omega
    obtain ⟨b, o, c', t', f', rfl, hb, hcell⟩ := (hs.same hm).at1 hlt (by simpa using hlt)
    have hp := hz zs[i] (List.getElem_mem hlt)
    simp only [List.getElem_map] at hcell
    have htk : (zs.take (i + 1)).flatMap (·.2) = (zs.take i).flatMap (·.2) ++ zs[i].2 := by rw [List.take_succ_eq_append_getElem hlt, List.flatMap_append]; simp
    have hfle : ((zs.take (i + 1)).flatMap (·.2)).length ≤ 1099511627776 := by
      have : zs = zs.take (i + 1) ++ zs.drop (i + 1) := (List.take_append_drop _ _).symm
      rw [this, List.flatMap_append, List.length_append] at hlen
      omega
    rw [htk, List.length_append] at hfle
    have hl1 := errs_len hzs'
    rw [hfl] at hl1
    have hos : o + i < c'.size := (Array.getElem?_eq_some_iff.1 hcell).1
    have hadd := i64_succ (i := i) (by omega)
    generalize zs[i] = p at *
    obtain ⟨pv, pl⟩ := p
    simp only at hp hcell htk hfle
    unfold f46_1
    simp -dsimp [hlt, hb, hcell]
    rcases hp with ⟨rfl, rfl⟩ | hp
    · rw [keq_nil_nil ifErr]
      simp -dsimp
      unfold f46_2
      simp -dsimp [hadd]
      exact ⟨⟨i + 1, zs', by omega, rfl, hown, hzs', by rw [htk, hfl]; simp, hm, hf⟩, by simp [RowKit.intOf]; omega⟩
    · have hap : ∀ (x2 : Value) (w2 : World) (zq : List (Value × List Leaf)), Own w2 x2 1 ((zs' ++ zq).map (·.1)) → (∀ p ∈ zq, ErrIs S w0 d p.1 p.2) → zq.flatMap (·.2) = pl → Same w w2 → (∀ b, vblk x2 b → w.heap.size ≤ b) →
          FlatInv S w0 w d zs x2 (.int .i64 ((i + 1 : Nat) : Int)) w2 := by
        intro x2 w2 zq h1 h2 h3 h4 h5
        refine ⟨i + 1, zs' ++ zq, by omega, rfl, h1, fun p hp => ?_, ?_, h4, h5⟩
        · rcases List.mem_append.1 hp with hp | hp
          · exact hzs' p hp
          · exact h2 p hp
        · rw [List.flatMap_append, hfl, htk, h3]
      have plain : ∀ t u, pv = .iface t u → t ≠ 113 → ksem Tryz.prog (Builtin.append_ #[106, 106] 0 #[x, .slice (some ⟨wr.heap.size, 0, none⟩) 1 1]) (wr.alloc (.cells #[pv] 36)) fun v20 w21 =>
          f46_2 v20 (.slice (some ⟨b, o, none⟩) zs.length c) (.int .i64 zs.length) (.int .i64 i) (fun y2 y10 w2 => FlatInv S w0 w d zs y2 y10 w2 ∧ zs.length - (RowKit.intOf y10).toNat < zs.length - (RowKit.intOf (.int .i64 i)).toNat) (fun v w' => ∃ zs' : List (Value × List Leaf), Own w' v 1 (zs'.map (·.1)) ∧ (∀ p ∈ zs', ErrIs S w0 d p.1 p.2) ∧ zs'.flatMap (·.2) = zs.flatMap (·.2) ∧ Same w w' ∧ ∀ b, vblk v b → w.heap.size ≤ b) w21 := by
        intro t u e _
        refine ksem_append apErr (by omega) (hown.same (same_alloc _ _)) (Src.ofSlIs (hk := slErr_is.choose_spec) 1 (vs := [pv]) (SlIs.new (arr := #[pv]) (by simp)) (by simp [oneCells, e, Value.oneCell'])) (by simp; omega) (by simp; omega) ?_
        intro v' w' ho hm' hf'
        unfold f46_2
        simp -dsimp [hadd]
        have hsz : wr.heap.size ≤ (wr.alloc (.cells #[pv] 36)).heap.size := (same_alloc _ _).size
        refine ⟨hap v' w' [(pv, pl)] (by simpa using ho) (by simpa using hp) (by simp) (Mod.after (hm.trans (same_alloc _ _)) hm' hf) (fun b hb => ?_), by simp [RowKit.intOf]; omega⟩
        rcases hf' b hb with h | h
        · exact hf b h
        · exact Nat.le_trans hm.size (Nat.le_trans hsz h)
      rcases hp.cases with ⟨k, k1, k2, rfl, rfl⟩ | ⟨d', hd', b', wh, u, ls', t'', f'', rfl, hb', hu, rfl⟩ | ⟨d', hd', b', a', n', c'', zs2, t'', f'', rfl, hb', hs', hne, hz', rfl⟩
      · rw [errV, keq_if_nil ifErr]
        simp -dsimp
        rw [kta_other (by decide)]
        simp -dsimp
        exact plain _ _ rfl (by decide)
      · rw [keq_if_nil ifErr]
        simp -dsimp
        rw [kta_other (by decide)]
        simp -dsimp
        exact plain _ _ rfl (by decide)
      · rw [keq_if_nil ifErr]
        simp -dsimp
        have hl2 := errs_len hz'
        have hm0 : Same w0 wr := h0.trans hm
        refine kcall_of (unwrapS_spec (hm0.get hb' (fun h => h)) (hs'.same hm0) (errs_one hz') (by simp; omega)) ?_
        rintro v12 w13 ⟨ho, hm1, hf1⟩
        obtain ⟨a3, n3, c3, rfl, hs3, hn3⟩ := ho.is
        refine kcall_of (ih d' hd' w13 zs2 a3 n3 c3 (hm0.trans hm1) hs3 (fun p hp => .inr (hz' p hp)) (by omega) (by omega)) ?_
        rintro v14 w15 ⟨zq, ho2, hzq, hfl2, hm2, hf2⟩
        obtain ⟨a4, n4, c4, rfl, hs4, hn4⟩ := ho2.is
        have hl4 := errs_len hzq
        rw [hfl2] at hl4
        refine ksem_append apErr (by omega) (hown.same (hm1.trans hm2)) (Src.ofSlIs (hk := slErr_is.choose_spec) c4 hs4 (errs_one hzq)) (by simp; omega) (by simp; omega) ?_
        intro v' w' ho hm' hf'
        unfold f46_2
        simp -dsimp [hadd]
        refine ⟨hap v' w' zq (by simpa using ho) (fun p hp => (hzq p hp).up (by omega)) hfl2 (Mod.after (hm.trans (hm1.trans hm2)) hm' hf) (fun b hb => ?_), by simp [RowKit.intOf]; omega⟩
        rcases hf' b hb with h | h
        · exact hf b h
        · exact Nat.le_trans (hm.trans (hm1.trans hm2)).size h
  · have : i = zs.length := by omega
    subst this
    unfold f46_3
    exact ⟨zs', hown, hzs', by rw [hfl, List.take_length], hm, hf⟩

theorem All_spec {S : Nat → Addr} {w : World} {d : Nat} {zs : List (Value × List Leaf)} {a : Option Addr} {n c : Nat} (hs : SlIs w a n 1 (zs.map (·.1))) (hz : ∀ p ∈ zs, ErrO S w d p.1 p.2) (hlen : (zs.flatMap (·.2)).length ≤ 1099511627776) (hlen2 : zs.length ≤ 1099511627776) :
    Meets Tryz.prog 24 #[.slice a n c] w fun v w' => ErrO S w' (d + 1) v (zs.flatMap (·.2)) ∧ Same w w' := by
  refine f24_ok ?_
  unfold f24
  refine kcall_of (flat_spec (w0 := w) d w zs a n c (Mod.refl _ _) hs hz hlen hlen2) ?_
  rintro v w' ⟨zs', ho, hz', hfl, hm, hf⟩
  obtain ⟨a1, n1, c1, rfl, hs1, hn1⟩ := ho.is
  have hn1 : n1 = zs'.length := by rw [hn1 rfl, List.length_map]
  subst hn1
  simp -dsimp
  refine kIf_dec (fun h => ?_) (fun h => ?_)
  · have : zs' = [] := by simpa using h
    subst this
    exact ⟨.inl ⟨rfl, by rw [← hfl]; rfl⟩, hm⟩
  · simp -dsimp
    refine kIf_dec (fun h1 => ?_) (fun h1 => ?_)
    · obtain ⟨p, rfl⟩ : ∃ p, zs' = [p] := List.length_eq_one_iff.1 (by omega)
      obtain ⟨b, o, c', t', f', rfl, hb, hcell⟩ := hs1.at1 (i := 0) (by simp) (by simp)
      simp at hcell
      simp -dsimp [hb, hcell]
      have := hz' p (by simp)
      rw [← hfl]
      have e : [p].flatMap (·.2) = p.2 := by simp
      rw [e]
      exact ⟨.inr ((this.same hm).up (by omega)), hm⟩
    · unfold f24_0
      simp -dsimp
      have hs' : ∀ o, Same w' (w'.alloc o) := fun o => same_alloc _ _
      refine ⟨.inr (.inr (.inr ⟨_, a1, _, c1, zs', _, _, rfl, alloc_heap_new _ _, hs1.same (hs' _), fun e => h (by simp [e]), fun p hp => (hz' p hp).same (hm.trans (hs' _)), hfl.symm⟩)), hm.trans (hs' _)⟩
end Go.Proofs.YtkkgakhfeldokaaGreatDoor
end
section
namespace Go.Proofs.YtkkgakhfeldokaaGreatDoor
open Go Go.Ev
set_option linter.unusedVariables false
set_option linter.unusedSimpArgs false
set_option maxRecDepth 100000

/-- Ways that can be joined. -/
def joinOk (ways : List ByteArray) : Prop := ways.length ≤ 1
theorem Join_spec {w : World} {a : Option Addr} {n c : Nat} {ways : List ByteArray} (hs : SlIs w a n 1 (ways.map .string)) (hk : joinOk ways) :
    Meets Tryz.prog 68 #[.slice a n c, .string ⟨#[47]⟩] w fun v w' => v = .string (joinP ways) ∧ Same w w' := by
  have hn : n = ways.length := by have := hs.1; simpa using this.symm
  subst hn
  refine f68_ok ?_
  unfold f68
  match ways, hs, hk with
  | [], hs, hk => simp -dsimp; exact ⟨rfl, Mod.refl _ _⟩
  | [x], hs, hk =>
    obtain ⟨b, o, c', t', f', rfl, hb, hcell⟩ := hs.at1 (i := 0) (by simp) (by simp)
    simp at hcell
    simp -dsimp [hb, hcell]
    exact ⟨rfl, Mod.refl _ _⟩
  | x :: y :: r, hs, hk => simp [joinOk] at hk

def leafCells (ways : List ByteArray) (ls : List Leaf) : List Value := ls.flatMap fun l => [.string (joinP (ways ++ l.1)), .int .i64 l.2]
theorem leafCells_len (ways : List ByteArray) (ls : List Leaf) : (leafCells ways ls).length = ls.length * 2 := flat_len _ 2 (fun _ => rfl) ls
theorem leafCells_append (ways : List ByteArray) (a b : List Leaf) : leafCells ways (a ++ b) = leafCells ways a ++ leafCells ways b := by simp [leafCells]
theorem leafCells_map (ways : List ByteArray) (wh : ByteArray) (ls : List Leaf) : leafCells ways (ls.map fun l => (wh :: l.1, l.2)) = leafCells (ways ++ [wh]) ls := by
  simp [leafCells, List.flatMap_map]
theorem leafCells_one (ways : List ByteArray) : ∀ ls : List Leaf, oneCells (leafCells ways ls) = true
  | [] => rfl
  | l :: ls => by
    have := leafCells_one ways ls
    rw [leafCells] at this ⊢
    rw [List.flatMap_cons]
    simpa [oneCells, Value.oneCell'] using this
theorem strs_one : ∀ ws : List ByteArray, oneCells (ws.map Value.string) = true
  | [] => rfl
  | x :: ws => by have := strs_one ws; simpa [oneCells, Value.oneCell'] using this
def WalkInv (w : World) (ways : List ByteArray) (zs : List (Value × List Leaf)) (x y : Value) (wr : World) : Prop :=
  ∃ i : Nat, i ≤ zs.length ∧ y = .int .i64 i ∧ Own wr x 2 (leafCells ways ((zs.take i).flatMap (·.2))) ∧ Same w wr ∧ ∀ b, vblk x b → w.heap.size ≤ b

set_option maxHeartbeats 4000000 in
theorem walk_spec {S : Nat → Addr} (d : Nat) : ∀ (w : World) (ways : List ByteArray) (a : Option Addr) (n c : Nat) (v : Value) (ls : List Leaf), LaidE S w → SlIs w a n 1 (ways.map .string) → ErrO S w d v ls → (∀ l ∈ ls, joinOk (ways ++ l.1)) →
    ls.length ≤ 1073741824 → ways.length + d ≤ 1073741824 →
    Meets Tryz.prog 41 #[.slice a n c, v] w fun v' w' => Own w' v' 2 (leafCells ways ls) ∧ Same w w' ∧ ∀ b, vblk v' b → w.heap.size ≤ b := by
  induction d using Nat.strongRecOn with
  | ind d ih =>
  intro w ways a n c v ls hL hs hv hj hlen hlen2
  refine f41_ok ?_
  unfold f41
  rcases hv with ⟨rfl, rfl⟩ | hv
  · rw [keq_nil_nil ifErr]
    simp -dsimp
    exact ⟨Own.nil _ _, Mod.refl _ _, fun b hb => by obtain ⟨_, _, _, h⟩ := hb; cases h⟩
  rcases hv.cases with ⟨k, k1, k2, rfl, rfl⟩ | ⟨d', hd', b', wh, u, ls', t'', f'', rfl, hb', hu, rfl⟩ | ⟨d', hd', b', a', n', c'', zs, t'', f'', rfl, hb', hs', hne, hz', rfl⟩
  · rw [errV, keq_if_nil ifErr]
    simp -dsimp
    rw [kta_other (by decide)]
    simp -dsimp
    rw [kta_other (by decide)]
    simp -dsimp
    unfold f41_4
    refine kcall_of (Join_spec hs (by simpa using hj ([], k) (by simp))) ?_
    rintro v w' ⟨rfl, hm⟩
    refine kcall_of (Number_spec (hL.same hm) k k1 k2) ?_
    rintro v w' ⟨rfl, rfl⟩
    simp -dsimp
    refine ⟨?_, hm.trans (same_alloc _ _), fun b hb => by rw [vblk_new hb]; exact hm.size⟩
    have : leafCells ways [([], k)] = [.string (joinP ways), .int .i64 k] := by simp [leafCells]
    rw [this]
    exact Own.new (arr := #[.string (joinP ways), .int .i64 k]) (by simp) (by simp [maxLen])
  · rw [keq_if_nil ifErr]
    simp -dsimp
    have hl : ways.length ≤ 1099511627776 := by omega
    have hd0 : Same w w.drew := (Mod.refl _ _).drew
    refine ⟨?_, ?_⟩
    · refine kcall_of (cloneS_spec (hs.same hd0) (strs_one ways) (by simpa using hl)) ?_
      rintro v6 w7 ⟨ho, hm, hf⟩
      have hm : Same w w7 := hd0.trans hm
      simp -dsimp [hm.get hb' (fun h => h), hb']
      refine ksem_append apStr (by omega) (ho.same (same_alloc _ _)) (Src.ofSlIs (hk := slStr_is.choose_spec) 1 (vs := [.string wh]) (SlIs.new (arr := #[.string wh]) (by simp)) rfl) (by simp; omega) (by simp; omega) ?_
      intro v12 w13 ho1 hm1 hf1
      have hm2 : Same w w13 := Mod.after (hm.trans (same_alloc _ _)) hm1 (fun b hb => hf b hb)
      refine kcall_of (unwrapB_spec (hm2.get hb' (fun h => h))) ?_
      rintro v w' ⟨rfl, rfl⟩
      obtain ⟨a4, n4, c4, rfl, hs4, hn4⟩ := ho1.is
      refine kcall_of (ih d' hd' _ (ways ++ [wh]) a4 n4 c4 _ ls' (hL.same hm2) (by simpa using hs4) (.inr (hu.same hm2)) (fun l hl => by have := hj (wh :: l.1, l.2) (List.mem_map.2 ⟨l, hl, rfl⟩); simpa using this) (by simpa using hlen) (by simp; omega)) ?_
      rintro v w' ⟨ho5, hm5, hf5⟩
      exact ⟨by rw [leafCells_map]; exact ho5, hm2.trans hm5, fun b hb => Nat.le_trans hm2.size (hf5 b hb)⟩
    · simp -dsimp [hb']
      refine kcall_of (cloneS_spec (hs.same (hd0.trans (same_alloc _ _))) (strs_one ways) (by simpa using hl)) ?_
      rintro v6 w7 ⟨ho, hm, hf⟩
      have hsn := (SlIs.new (w := w.drew) (t := 9) (arr := #[.string wh]) (n := 1) (sz := 1) (by simp)).same hm
      have hm : Same w w7 := (hd0.trans (same_alloc _ _)).trans hm
      have hsz : w.heap.size ≤ (w.drew.alloc (.cells #[.string wh] 9)).heap.size := (hd0.trans (same_alloc _ _)).size
      simp -dsimp [hm.get hb' (fun h => h)]
      refine ksem_append apStr (by omega) ho (Src.ofSlIs (hk := slStr_is.choose_spec) 1 (vs := [.string wh]) hsn rfl) (by simp; omega) (by simp; omega) ?_
      intro v12 w13 ho1 hm1 hf1
      have hm2 : Same w w13 := Mod.after hm hm1 (fun b hb => Nat.le_trans hsz (hf b hb))
      refine kcall_of (unwrapB_spec (hm2.get hb' (fun h => h))) ?_
      rintro v w' ⟨rfl, rfl⟩
      obtain ⟨a4, n4, c4, rfl, hs4, hn4⟩ := ho1.is
      refine kcall_of (ih d' hd' _ (ways ++ [wh]) a4 n4 c4 _ ls' (hL.same hm2) (by simpa using hs4) (.inr (hu.same hm2)) (fun l hl => by have := hj (wh :: l.1, l.2) (List.mem_map.2 ⟨l, hl, rfl⟩); simpa using this) (by simpa using hlen) (by simp; omega)) ?_
      rintro v w' ⟨ho5, hm5, hf5⟩
      exact ⟨by rw [leafCells_map]; exact ho5, hm2.trans hm5, fun b hb => Nat.le_trans hm2.size (hf5 b hb)⟩
  · rw [keq_if_nil ifErr]
    simp -dsimp
    rw [kta_other (by decide)]
    simp -dsimp
    have hl2 := errs_len hz'
    refine kcall_of (unwrapS_spec hb' hs' (errs_one hz') (by simp; omega)) ?_
    rintro v12 w13 ⟨ho, hm1, hf1⟩
    obtain ⟨a3, n3, c3, rfl, hs3, hn3⟩ := ho.is
    have hn3 : n3 = zs.length := by rw [hn3 rfl, List.length_map]
    subst hn3
    simp -dsimp
    refine kL_of (WalkInv w13 ways zs) (fun _ y _ => zs.length - (RowKit.intOf y).toNat) ⟨⟨0, by omega, rfl, Own.nil _ _, Mod.refl _ _, fun b hb => by obtain ⟨_, _, _, h⟩ := hb; cases h⟩, ?_⟩
    rintro x y wr ⟨i, hi, rfl, hown, hm, hf⟩
    unfold f41_0
    simp -dsimp
    refine kIf_dec (fun hlt => ?_) (fun hge => ?_)
    · have hlt : i < zs.length := by omega
      obtain ⟨b, o, c', t', f', rfl, hb, hcell⟩ := (hs3.same hm).at1 hlt (by simpa using hlt)
      simp only [List.getElem_map] at hcell
      have htk : (zs.take (i + 1)).flatMap (·.2) = (zs.take i).flatMap (·.2) ++ zs[i].2 := by rw [List.take_succ_eq_append_getElem hlt, List.flatMap_append]; simp
      have hmem : zs[i] ∈ zs := List.getElem_mem hlt
      have hcat : zs.flatMap (·.2) = (zs.take (i + 1)).flatMap (·.2) ++ (zs.drop (i + 1)).flatMap (·.2) := by rw [← List.flatMap_append, List.take_append_drop]
      have hp := hz' zs[i] hmem
      have hjp : ∀ l ∈ zs[i].2, joinOk (ways ++ l.1) := fun l hl => hj l (List.mem_flatMap.2 ⟨_, hmem, hl⟩)
      have hos : o + i < c'.size := (Array.getElem?_eq_some_iff.1 hcell).1
      have hadd := i64_succ (i := i) (by omega)
      have hfle : ((zs.take i).flatMap (·.2)).length + zs[i].2.length ≤ 1073741824 := by
        rw [hcat, htk, List.length_append, List.length_append] at hlen; omega
      generalize zs[i] = p at *
      obtain ⟨pv, pl⟩ := p
      simp only at hp hcell htk hfle hjp
      unfold f41_1
      simp -dsimp [hlt, hb, hcell]
      have hm' : Same w wr := hm1.trans hm
      refine kcall_of (ih d' hd' wr ways a n c pv pl (hL.same hm') (hs.same hm') (.inr (hp.same hm')) hjp (by omega) (by omega)) ?_
      rintro v w' ⟨ho5, hm5, hf5⟩
      obtain ⟨a5, n5, c5, rfl, hs5, _⟩ := ho5.is
      refine ksem_append apLeaf (by omega) (hown.same hm5) (Src.ofSlIs (hk := slLeaf_is.choose_spec) c5 hs5 (leafCells_one _ _)) (by simp only [leafCells_len]; omega) (by simp only [leafCells_len]; omega) ?_
      intro v12 w14 ho6 hm6 hf6
      unfold f41_2
      simp -dsimp [hadd]
      refine ⟨⟨i + 1, by omega, rfl, by rw [htk, leafCells_append]; exact ho6, Mod.after (hm.trans hm5) hm6 hf, fun b hb => ?_⟩, by simp [RowKit.intOf]; omega⟩
      rcases hf6 b hb with h | h
      · exact hf b h
      · exact Nat.le_trans (hm.trans hm5).size h
    · have : i = zs.length := by omega
      subst this
      unfold f41_3
      rw [List.take_length] at hown
      exact ⟨hown, hm1.trans hm, fun b hb => Nat.le_trans hm1.size (hf b hb)⟩

theorem Leaves_spec {S : Nat → Addr} {w : World} {d : Nat} {v : Value} {ls : List Leaf} (hL : LaidE S w) (hv : ErrO S w d v ls) (hj : ∀ l ∈ ls, joinOk l.1) (hlen : ls.length ≤ 1073741824) (hd : d ≤ 1073741824) :
    Meets Tryz.prog 19 #[v] w fun v' w' => Own w' v' 2 (leafCells [] ls) ∧ Same w w' ∧ ∀ b, vblk v' b → w.heap.size ≤ b := by
  refine f19_ok ?_
  unfold f19
  refine kcall_of (walk_spec d w [] none 0 0 v ls hL (SlIs.nil _ _ _) hv (by simpa using hj) hlen (by simpa using hd)) ?_
  rintro v w' h
  exact h
end Go.Proofs.YtkkgakhfeldokaaGreatDoor
end
section
namespace Go.Proofs.YtkkgakhfeldokaaGreatDoor
open Go Go.Ev
set_option linter.unusedVariables false
set_option maxRecDepth 100000

/-! pasodoble/pasodoblelaw17.MillSums -/
def f3_3 (x0 : Value) (x11 : Value) (x13 : Value) (Q : Value → World → Prop) (w : World) : Prop :=
  kint .i64 .add x13 x11 fun v75 =>
  kint .i64 .eql v75 x0 fun v76 =>
  kB v76 fun b77 => kIf b77
  (kint .i64 .eql x11 (.int .i64 0) fun v78 =>
  kB v78 fun b79 => kIf (!b79)
  (kint .i64 .lss x11 (.int .i64 0) fun v80 =>
  kint .i64 .lss x0 (.int .i64 0) fun v81 =>
  kbool .eql v80 v81 fun v82 =>
  Q v82 w)
  (Q (.bool true) w))
  (Q (.bool false) w)

def f3_2 (x0 : Value) (x1 : Value) (x9 : Value) (x11 : Value) (x13 : Value) (Q : Value → World → Prop) (w : World) : Prop :=
  kint .i64 .eql x1 (.int .i64 0) fun v71 =>
  kB v71 fun b83 => kIf b83
  (kint .i64 .eql x9 (.int .i64 0) fun v72 =>
  kB v72 fun b73 => kIf b73
  (kint .i64 .eql x11 (.int .i64 0) fun v74 =>
  Q v74 w)
  (Q (.bool false) w))
  (f3_3 x0 x11 x13 Q w)

def f3_1 (x0 : Value) (x1 : Value) (x9 : Value) (x11 : Value) (x13 : Value) (x142 : Value) (Q : Value → World → Prop) (w : World) : Prop :=
  kB x142 fun b84 => kIf b84
  (Q (.bool false) w)
  (f3_2 x0 x1 x9 x11 x13 Q w)

def f3_0 (x0 : Value) (x1 : Value) (Q : Value → World → Prop) (w : World) : Prop :=
  kcall Tryz.prog 6 #[(.int .i64 6), x0, x1] w fun v4 w5 =>
  kext v4 0 fun v6 =>
  kext v4 1 fun v7 =>
  kcall Tryz.prog 6 #[(.int .i64 7), v6, x1] w5 fun v8 w9 =>
  kext v8 0 fun v10 =>
  kext v8 1 fun v11 =>
  kcall Tryz.prog 6 #[(.int .i64 9), x0, x1] w9 fun v12 w13 =>
  kext v12 0 fun v14 =>
  kext v12 1 fun v15 =>
  kcall Tryz.prog 6 #[(.int .i64 10), x0, x1] w13 fun v16 w17 =>
  kext v16 0 fun v18 =>
  kext v16 1 fun v19 =>
  kcall Tryz.prog 6 #[(.int .i64 8), v14, x1] w17 fun v20 w21 =>
  kext v20 0 fun v22 =>
  kext v20 1 fun v23 =>
  kcall Tryz.prog 6 #[(.int .i64 14), x0, x1] w21 fun v24 w25 =>
  kext v24 0 fun v26 =>
  kext v24 1 fun v27 =>
  kcall Tryz.prog 6 #[(.int .i64 14), v26, x1] w25 fun v28 w29 =>
  kext v28 0 fun v30 =>
  kext v28 1 fun v31 =>
  kcall Tryz.prog 6 #[(.int .i64 18), x0, x1] w29 fun v32 w33 =>
  kext v32 0 fun v34 =>
  kext v32 1 fun v35 =>
  kcall Tryz.prog 6 #[(.int .i64 18), x1, x0] w33 fun v36 w37 =>
  kext v36 0 fun v38 =>
  kext v36 1 fun v39 =>
  kcall Tryz.prog 6 #[(.int .i64 17), x0, x1] w37 fun v40 w41 =>
  kext v40 0 fun v42 =>
  kext v40 1 fun v43 =>
  kun .not (some .bool) v7 fun v44 =>
  kB v44 fun b45 => kIf (!b45)
  (kun .not (some .bool) v11 fun v46 =>
  kB v46 fun b47 => kIf (!b47)
  (kun .not (some .bool) v15 fun v48 =>
  kB v48 fun b49 => kIf (!b49)
  (kun .not (some .bool) v19 fun v50 =>
  kB v50 fun b51 => kIf (!b51)
  (kun .not (some .bool) v23 fun v52 =>
  kB v52 fun b53 => kIf (!b53)
  (kun .not (some .bool) v27 fun v54 =>
  kB v54 fun b55 => kIf (!b55)
  (kun .not (some .bool) v31 fun v56 =>
  kB v56 fun b57 => kIf (!b57)
  (kun .not (some .bool) v35 fun v58 =>
  kB v58 fun b59 => kIf (!b59)
  (kun .not (some .bool) v39 fun v60 =>
  kB v60 fun b61 => kIf (!b61)
  (kun .not (some .bool) v43 fun v62 =>
  kB v62 fun b63 => kIf (!b63)
  (kint .i64 .neq v10 x0 fun v64 =>
  kB v64 fun b65 => kIf (!b65)
  (kint .i64 .neq v30 x0 fun v66 =>
  kB v66 fun b67 => kIf (!b67)
  (kint .i64 .add v34 v38 fun v68 =>
  kint .i64 .add v68 v42 fun v69 =>
  kint .i64 .neq v69 (.int .i64 1) fun v70 =>
  f3_1 x0 x1 v14 v18 v22 v70 Q w41)
  (f3_1 x0 x1 v14 v18 v22 (.bool true) Q w41))
  (f3_1 x0 x1 v14 v18 v22 (.bool true) Q w41))
  (f3_1 x0 x1 v14 v18 v22 (.bool true) Q w41))
  (f3_1 x0 x1 v14 v18 v22 (.bool true) Q w41))
  (f3_1 x0 x1 v14 v18 v22 (.bool true) Q w41))
  (f3_1 x0 x1 v14 v18 v22 (.bool true) Q w41))
  (f3_1 x0 x1 v14 v18 v22 (.bool true) Q w41))
  (f3_1 x0 x1 v14 v18 v22 (.bool true) Q w41))
  (f3_1 x0 x1 v14 v18 v22 (.bool true) Q w41))
  (f3_1 x0 x1 v14 v18 v22 (.bool true) Q w41))
  (f3_1 x0 x1 v14 v18 v22 (.bool true) Q w41))
  (f3_1 x0 x1 v14 v18 v22 (.bool true) Q w41)

def f3 (x0 : Value) (x1 : Value) (Q : Value → World → Prop) (w : World) : Prop :=
  kcall Tryz.prog 5 #[] w fun v1 w2 =>
  kun .not (some .bool) v1 fun v3 =>
  kB v3 fun b85 => kIf b85
  (Q (.bool false) w2)
  (f3_0 x0 x1 Q w2)

theorem f3_eq (x0 : Value) (x1 : Value) (Q : Value → World → Prop) (w : World) : f3 x0 x1 Q w = fnVC Tryz.prog Tryz.f3 [] (Tryz.f3.body.get rfl) [x0, x1] w Q := by kernel_rfl
theorem f3_ok {x0 : Value} {x1 : Value} {Q : Value → World → Prop} {w : World} (h : f3 x0 x1 Q w) : Meets Tryz.prog 3 #[x0, x1] w Q :=
  sound (c := (Tryz.f3.body.get rfl)) [] Tryz.func3 rfl rfl (args := [x0, x1]) rfl (Eq.mp (f3_eq x0 x1 Q w) h)

/-! pasodoble/pasodoblelaw17.awake -/
def f5_4 (x1 : Value) (x2 : Value) (J5 : Value → World → Prop) (Q : Value → World → Prop) (w : World) : Prop :=
  kint .i64 .add x2 (.int .i64 1) fun v20 =>
  J5 v20 w

def f5_3 (x1 : Value) (x2 : Value) (x33 : Value) (J5 : Value → World → Prop) (Q : Value → World → Prop) (w : World) : Prop :=
  kB x33 fun b21 => kIf b21
  (Q (.bool false) w)
  (f5_4 x1 x2 J5 Q w)

def f5_2 (x1 : Value) (x2 : Value) (J5 : Value → World → Prop) (Q : Value → World → Prop) (w : World) : Prop :=
  kcall Tryz.prog 11 #[x1] w fun v12 w13 =>
  kext v12 0 fun v14 =>
  kext v12 1 fun v15 =>
  kun .not (some .bool) v14 fun v16 =>
  kB v16 fun b17 => kIf (!b17)
  (keq Tryz.prog .neq 36 false true v15 .nilIface w13 fun v18 w19 =>
  f5_3 x1 x2 v18 J5 Q w19)
  (f5_3 x1 x2 (.bool true) J5 Q w13)

def f5_5 (x1 : Value) (Q : Value → World → Prop) (w : World) : Prop :=
  kbld [(.pointer none), (.pointer none), (.int .i64 0), (.int .i64 0), (.int .i64 0)] [] fun v22 =>
  kbld [(.int .i64 0), (.int .i64 0), (.int .i64 0)] [(0, 1, (.int .i64 20))] fun v23 =>
  kbldS [(.int .i64 0), (.int .i64 0), (.int .i64 0)] 1 [(0, 3, v23)] 49 w fun v24 w25 =>
  kcall Tryz.prog 12 #[v22, v24, (.int .i64 10)] w25 fun v26 w27 =>
  kext v26 0 fun v28 =>
  kext v26 1 fun v29 =>
  kbld [(.pointer none), (.pointer none), (.int .i64 0), (.int .i64 0), (.int .i64 0)] [] fun v30 =>
  kbld [(.int .i64 0), (.int .i64 0), (.int .i64 0)] [(0, 1, (.int .i64 1))] fun v31 =>
  kbld [(.int .i64 0), (.int .i64 0), (.int .i64 0)] [(0, 1, (.int .i64 35))] fun v32 =>
  kbld [(.int .i64 0), (.int .i64 0), (.int .i64 0)] [(0, 1, (.int .i64 6))] fun v33 =>
  kbldS [(.int .i64 0), (.int .i64 0), (.int .i64 0)] 3 [(0, 3, v31), (3, 3, v32), (6, 3, v33)] 49 w27 fun v34 w35 =>
  kcall Tryz.prog 12 #[v30, v34, (.int .i64 10)] w35 fun v36 w37 =>
  kext v36 0 fun v38 =>
  kext v36 1 fun v39 =>
  kbld [(.pointer none), (.pointer none), (.int .i64 0), (.int .i64 0), (.int .i64 0)] [] fun v40 =>
  kbld [(.int .i64 0), (.int .i64 0), (.int .i64 0)] [(0, 1, (.int .i64 6))] fun v41 =>
  kbldS [(.int .i64 0), (.int .i64 0), (.int .i64 0)] 1 [(0, 3, v41)] 49 w37 fun v42 w43 =>
  kcall Tryz.prog 12 #[v40, v42, (.int .i64 10)] w43 fun v44 w45 =>
  kext v44 0 fun v46 =>
  kext v44 1 fun v47 =>
  kcall Tryz.prog 14 #[x1] w45 fun v48 w49 =>
  kbldS [(.int .i64 0)] 1 [(0, 1, (.int .i64 5))] 3 w49 fun v50 w51 =>
  kcall Tryz.prog 13 #[v48, v50] w51 fun v52 w53 =>
  kB v52 fun b54 => kIf b54
  (kcall Tryz.prog 15 #[x1] w53 fun v55 w56 =>
  kint .i64 .eql v55 (.int .i64 7) fun v57 =>
  kB v57 fun b58 => kIf b58
  (kcall Tryz.prog 16 #[x1] w56 fun v59 w60 =>
  kB v59 fun b61 => kIf b61
  (kint .i64 .eql v28 (.int .i64 0) fun v62 =>
  kB v62 fun b63 => kIf b63
  (kld (.pointer (some ⟨0, 0, none⟩)) w60 fun v64 =>
  kcall Tryz.prog 17 #[v29, v64] w60 fun v65 w66 =>
  kB v65 fun b67 => kIf b67
  (kint .i64 .eql v38 (.int .i64 8) fun v68 =>
  kB v68 fun b69 => kIf b69
  (keq Tryz.prog .eql 36 false true v39 .nilIface w66 fun v70 w71 =>
  kB v70 fun b72 => kIf b72
  (kld (.pointer (some ⟨1, 0, none⟩)) w71 fun v73 =>
  kcall Tryz.prog 17 #[v47, v73] w71 fun v74 w75 =>
  Q v74 w75)
  (Q (.bool false) w71))
  (Q (.bool false) w66))
  (Q (.bool false) w66))
  (Q (.bool false) w60))
  (Q (.bool false) w60))
  (Q (.bool false) w56))
  (Q (.bool false) w53)

def f5_1 (x2 : Value) (x1 : Value) (J5 : Value → World → Prop) (Q : Value → World → Prop) (w : World) : Prop :=
  kint .i64 .lss x2 (.int .i64 3) fun v11 =>
  kB v11 fun b76 => kIf b76
  (f5_2 x1 x2 J5 Q w)
  (f5_5 x1 Q w)

def f5_0 (x1 : Value) (Q : Value → World → Prop) (w : World) : Prop :=
  kL fun (I : Value → World → Prop) (μ : Value → World → Nat) => I (.int .i64 0) w ∧ ∀ (x2 : Value) (w1 : World), I x2 w1 →
  f5_1 x2 x1 (fun y2 w2 => I y2 w2 ∧ μ y2 w2 < μ x2 w1) Q w1

def f5 (Q : Value → World → Prop) (w : World) : Prop :=
  kbld [(.pointer none), (.pointer none), (.int .i64 0), (.int .i64 0), (.int .i64 0)] [] fun v1 =>
  kbld [(.int .i64 0), (.int .i64 0), (.int .i64 0)] [(0, 1, (.int .i64 1)), (1, 1, (.int .i64 7))] fun v2 =>
  kbld [(.int .i64 0), (.int .i64 0), (.int .i64 0)] [(0, 1, (.int .i64 1)), (1, 1, (.int .i64 2))] fun v3 =>
  kbld [(.int .i64 0), (.int .i64 0), (.int .i64 0)] [(0, 1, (.int .i64 7))] fun v4 =>
  kbldS [(.int .i64 0), (.int .i64 0), (.int .i64 0)] 3 [(0, 3, v2), (3, 3, v3), (6, 3, v4)] 49 w fun v5 w6 =>
  kcall Tryz.prog 10 #[v1, v5, (.int .i64 10)] w6 fun v7 w8 =>
  keq Tryz.prog .eql 40 false true v7 (.pointer none) w8 fun v9 w10 =>
  kB v9 fun b77 => kIf b77
  (Q (.bool false) w10)
  (f5_0 v7 Q w10)

theorem f5_eq (Q : Value → World → Prop) (w : World) : f5 Q w = fnVC Tryz.prog Tryz.f5 [(5, [2])] (Tryz.f5.body.get rfl) [] w Q := by kernel_rfl
theorem f5_ok {Q : Value → World → Prop} {w : World} (h : f5 Q w) : Meets Tryz.prog 5 #[] w Q :=
  sound (c := (Tryz.f5.body.get rfl)) [(5, [2])] Tryz.func5 rfl rfl (args := []) rfl (Eq.mp (f5_eq Q w) h)

/-! pasodoble/pasodoblelaw17.one -/
def f6_3 (x8 : Value) (x9 : Value) (J3 : Value → World → Prop) (Q : Value → World → Prop) (w : World) : Prop :=
  kint .i64 .add x9 (.int .i64 1) fun v18 =>
  J3 v18 w

def f6_2 (x8 : Value) (x9 : Value) (x36 : Value) (J3 : Value → World → Prop) (Q : Value → World → Prop) (w : World) : Prop :=
  kB x36 fun b19 => kIf b19
  (Q (.tuple #[(.int .i64 0), (.bool false)]) w)
  (f6_3 x8 x9 J3 Q w)

def f6_1 (x8 : Value) (x9 : Value) (J3 : Value → World → Prop) (Q : Value → World → Prop) (w : World) : Prop :=
  kcall Tryz.prog 11 #[x8] w fun v10 w11 =>
  kext v10 0 fun v12 =>
  kext v10 1 fun v13 =>
  kun .not (some .bool) v12 fun v14 =>
  kB v14 fun b15 => kIf (!b15)
  (keq Tryz.prog .neq 36 false true v13 .nilIface w11 fun v16 w17 =>
  f6_2 x8 x9 v16 J3 Q w17)
  (f6_2 x8 x9 (.bool true) J3 Q w11)

def f6_4 (x8 : Value) (Q : Value → World → Prop) (w : World) : Prop :=
  kcall Tryz.prog 14 #[x8] w fun v20 w21 =>
  klen v20 fun v22 =>
  kint .i64 .sub v22 (.int .i64 1) fun v24 =>
  kix (some (.slice 3)) (some 1) v20 v24 fun v25 =>
  kld v25 w21 fun v26 =>
  klen v20 fun v27 =>
  kint .i64 .eql v27 (.int .i64 1) fun v29 =>
  Q (.tuple #[v26, v29]) w21

def f6_0 (x9 : Value) (x8 : Value) (J3 : Value → World → Prop) (Q : Value → World → Prop) (w : World) : Prop :=
  kint .i64 .lss x9 (.int .i64 3) fun v9 =>
  kB v9 fun b30 => kIf b30
  (f6_1 x8 x9 J3 Q w)
  (f6_4 x8 Q w)

def f6 (x0 : Value) (x1 : Value) (x2 : Value) (Q : Value → World → Prop) (w : World) : Prop :=
  kbld [(.pointer none), (.pointer none), (.int .i64 0), (.int .i64 0), (.int .i64 0)] [] fun v1 =>
  kbld [(.int .i64 0), (.int .i64 0), (.int .i64 0)] [(0, 1, (.int .i64 1)), (1, 1, x1)] fun v2 =>
  kbld [(.int .i64 0), (.int .i64 0), (.int .i64 0)] [(0, 1, (.int .i64 1)), (1, 1, x2)] fun v3 =>
  kbld [(.int .i64 0), (.int .i64 0), (.int .i64 0)] [(0, 1, x0)] fun v4 =>
  kbldS [(.int .i64 0), (.int .i64 0), (.int .i64 0)] 3 [(0, 3, v2), (3, 3, v3), (6, 3, v4)] 49 w fun v5 w6 =>
  kcall Tryz.prog 10 #[v1, v5, (.int .i64 9)] w6 fun v7 w8 =>
  kL fun (I : Value → World → Prop) (μ : Value → World → Nat) => I (.int .i64 0) w8 ∧ ∀ (x9 : Value) (w1 : World), I x9 w1 →
  f6_0 x9 v7 (fun y9 w2 => I y9 w2 ∧ μ y9 w2 < μ x9 w1) Q w1

theorem f6_eq (x0 : Value) (x1 : Value) (x2 : Value) (Q : Value → World → Prop) (w : World) : f6 x0 x1 x2 Q w = fnVC Tryz.prog Tryz.f6 [(3, [9])] (Tryz.f6.body.get rfl) [x0, x1, x2] w Q := by kernel_rfl
theorem f6_ok {x0 : Value} {x1 : Value} {x2 : Value} {Q : Value → World → Prop} {w : World} (h : f6 x0 x1 x2 Q w) : Meets Tryz.prog 6 #[x0, x1, x2] w Q :=
  sound (c := (Tryz.f6.body.get rfl)) [(3, [9])] Tryz.func6 rfl rfl (args := [x0, x1, x2]) rfl (Eq.mp (f6_eq x0 x1 x2 Q w) h)

/-! pasodoble/mill.New -/
def f10 (x0 : Value) (x1 : Value) (x2 : Value) (Q : Value → World → Prop) (w : World) : Prop :=
  knew (Value.cells x0) 47 w fun v1 w2 =>
  kldN 5 v1 w2.drew fun v3 =>
  kG (w2.drew = w2.drew) <|
  kcall Tryz.prog 30 #[x1] w2.drew fun v4 w5 =>
  kG (kldN 5 v1 w5 fun v13 =>
  v13 = v3 ∧ w5 = w5) <|
  kmm .i64 true x2 (.int .i64 0) fun v6 =>
  kmm .i64 false v6 (.int .i64 4096) fun v8 =>
  kbld [(.pointer none), (.pointer none), (.int .i64 0), (.int .i64 0), (.int .i64 0), (.slice none 0 0), (.int .i64 0), (.slice none 0 0), (.int .i64 0), (.bool false)] [(0, 5, v3), (5, 1, v4), (8, 1, v8)] fun v10 =>
  knew (Value.cells v10) 88 w5 fun v11 w12 =>
  Q v11 w12

theorem f10_eq (x0 : Value) (x1 : Value) (x2 : Value) (Q : Value → World → Prop) (w : World) : f10 x0 x1 x2 Q w = fnVC Tryz.prog Tryz.f10 [] (Tryz.f10.body.get rfl) [x0, x1, x2] w Q := by kernel_rfl
theorem f10_ok {x0 : Value} {x1 : Value} {x2 : Value} {Q : Value → World → Prop} {w : World} (h : f10 x0 x1 x2 Q w) : Meets Tryz.prog 10 #[x0, x1, x2] w Q :=
  sound (c := (Tryz.f10.body.get rfl)) [] Tryz.func10 rfl rfl (args := [x0, x1, x2]) rfl (Eq.mp (f10_eq x0 x1 x2 Q w) h)

/-! (*pasodoble/mill.Mill).Step -/
def f11_1 (x0 : Value) (x4 : Value) (Q : Value → World → Prop) (w : World) : Prop :=
  kN x0 <|
  kfld 8 x0 fun v26 =>
  kld v26 w fun v27 =>
  kint .i64 .sub v27 (.int .i64 1) fun v28 =>
  kN x0 <|
  kfld 8 x0 fun v29 =>
  kst 1 v29 v28 w fun w30 =>
  kN x0 <|
  kfld 6 x0 fun v31 =>
  kld v31 w30 fun v32 =>
  kint .i64 .add v32 (.int .i64 1) fun v33 =>
  kN x0 <|
  kfld 6 x0 fun v34 =>
  kst 1 v34 v33 w30 fun w35 =>
  kfld 0 x4 fun v36 =>
  kld v36 w35 fun v37 =>
  kcall Tryz.prog 33 #[v37] w35 fun v38 w39 =>
  kext v38 0 fun v40 =>
  kext v38 1 fun v41 =>
  kldN 3 x4 w39.drew fun v42 =>
  kG (w39.drew = w39.drew) <|
  kcall Tryz.prog 35 #[x0, v40] w39.drew fun v43 w44 =>
  kG (kldN 3 x4 w44 fun v47 =>
  v47 = v42 ∧ w44 = w44) <|
  kcall Tryz.prog 34 #[x0, v42, v43] w44 fun v45 w46 =>
  Q (.tuple #[(.bool true), .nilIface]) w46

def f11_0 (x0 : Value) (Q : Value → World → Prop) (w : World) : Prop :=
  kN x0 <|
  kfld 5 x0 fun v8 =>
  kld v8 w.drew fun v9 =>
  kG (w.drew = w.drew) <|
  kN x0 <|
  kfld 6 x0 fun v10 =>
  kld v10 w.drew fun v11 =>
  kG (w.drew = w.drew) <|
  kix (some (.slice 49)) (some 3) v9 v11 fun v12 =>
  kldN 3 v12 w.drew fun v13 =>
  kG (w.drew = w.drew) <|
  knew #[(.int .i64 0), (.int .i64 0), (.int .i64 0)] 49 w.drew fun v14 w15 =>
  kG (kldN 3 v12 w15 fun v51 =>
  v51 = v13 ∧ w15 = w15) <|
  kG (kld v10 w15 fun v50 =>
  v50 = v11 ∧ w15 = w15) <|
  kG (kld v8 w15 fun v49 =>
  v49 = v9 ∧ w15 = w15) <|
  kst 3 v14 v13 w15 fun w16 =>
  kldN 3 v14 w16 fun v17 =>
  kcall Tryz.prog 32 #[x0, v17] w16 fun v18 w19 =>
  keq Tryz.prog .neq 36 false true v18 .nilIface w19 fun v20 w21 =>
  kB v20 fun b48 => kIf b48
  (kN x0 <|
  kfld 9 x0 fun v22 =>
  kst 1 v22 (.bool true) w21 fun w23 =>
  kcall Tryz.prog 31 #[v18] w23 fun v24 w25 =>
  Q (.tuple #[(.bool false), v24]) w25)
  (f11_1 x0 v14 Q w21)

def f11 (x0 : Value) (Q : Value → World → Prop) (w : World) : Prop :=
  keq Tryz.prog .eql 40 false true x0 (.pointer none) w fun v1 w2 =>
  kB v1 fun b53 => kIf b53
  (kld (.pointer (some ⟨4, 0, none⟩)) w2 fun v3 =>
  kcall Tryz.prog 31 #[v3] w2 fun v4 w5 =>
  Q (.tuple #[(.bool false), v4]) w5)
  (kcall Tryz.prog 16 #[x0] w2 fun v6 w7 =>
  kB v6 fun b52 => kIf b52
  (Q (.tuple #[(.bool false), .nilIface]) w7)
  (f11_0 x0 Q w7))

theorem f11_eq (x0 : Value) (Q : Value → World → Prop) (w : World) : f11 x0 Q w = fnVC Tryz.prog Tryz.f11 [] (Tryz.f11.body.get rfl) [x0] w Q := by kernel_rfl
theorem f11_ok {x0 : Value} {Q : Value → World → Prop} {w : World} (h : f11 x0 Q w) : Meets Tryz.prog 11 #[x0] w Q :=
  sound (c := (Tryz.f11.body.get rfl)) [] Tryz.func11 rfl rfl (args := [x0]) rfl (Eq.mp (f11_eq x0 Q w) h)

/-! pasodoble/mill.Run -/
def f12_0 (x8 : Value) (J2 : World → Prop) (Q : Value → World → Prop) (w : World) : Prop :=
  kcall Tryz.prog 11 #[x8] w fun v6 w7 =>
  kext v6 0 fun v8 =>
  kext v6 1 fun v9 =>
  kun .not (some .bool) v8 fun v10 =>
  kB v10 fun b13 => kIf b13
  (kcall Tryz.prog 15 #[x8] w7 fun v11 w12 =>
  Q (.tuple #[v11, v9]) w12)
  (J2 w7)

def f12 (x0 : Value) (x1 : Value) (x2 : Value) (Q : Value → World → Prop) (w : World) : Prop :=
  knew (Value.cells x0) 47 w fun v1 w2 =>
  kldN 5 v1 w2 fun v3 =>
  kcall Tryz.prog 10 #[v3, x1, x2] w2 fun v4 w5 =>
  kL fun (I : World → Prop) (μ : World → Nat) => I w5 ∧ ∀ (w1 : World), I w1 →
  f12_0 v4 (fun  w2 => I w2 ∧ μ w2 < μ w1) Q w1

theorem f12_eq (x0 : Value) (x1 : Value) (x2 : Value) (Q : Value → World → Prop) (w : World) : f12 x0 x1 x2 Q w = fnVC Tryz.prog Tryz.f12 [(2, [])] (Tryz.f12.body.get rfl) [x0, x1, x2] w Q := by kernel_rfl
theorem f12_ok {x0 : Value} {x1 : Value} {x2 : Value} {Q : Value → World → Prop} {w : World} (h : f12 x0 x1 x2 Q w) : Meets Tryz.prog 12 #[x0, x1, x2] w Q :=
  sound (c := (Tryz.f12.body.get rfl)) [(2, [])] Tryz.func12 rfl rfl (args := [x0, x1, x2]) rfl (Eq.mp (f12_eq x0 x1 x2 Q w) h)

/-! pasodoble/pasodobleref04.Same -/
def f13_3 (x0 : Value) (x1 : Value) (x5 : Value) (J4 : Value → World → Prop) (Q : Value → World → Prop) (w : World) : Prop :=
  kint .i64 .add x5 (.int .i64 1) fun v14 =>
  J4 v14 w

def f13_2 (x0 : Value) (x1 : Value) (x5 : Value) (J4 : Value → World → Prop) (Q : Value → World → Prop) (w : World) : Prop :=
  kix (some (.slice 3)) (some 1) x0 x5 fun v9 =>
  kld v9 w.drew fun v10 =>
  kG (w.drew = w.drew) <|
  kix (some (.slice 3)) (some 1) x1 x5 fun v11 =>
  kld v11 w.drew fun v12 =>
  kG (w.drew = w.drew) <|
  kint .i64 .neq v10 v12 fun v13 =>
  kB v13 fun b15 => kIf b15
  (Q (.bool false) w.drew)
  (f13_3 x0 x1 x5 J4 Q w.drew)

def f13_4 (Q : Value → World → Prop) (w : World) : Prop :=
  Q (.bool true) w

def f13_1 (x5 : Value) (x0 : Value) (x1 : Value) (J4 : Value → World → Prop) (Q : Value → World → Prop) (w : World) : Prop :=
  klen x0 fun v6 =>
  kint .i64 .lss x5 v6 fun v8 =>
  kB v8 fun b16 => kIf b16
  (f13_2 x0 x1 x5 J4 Q w)
  (f13_4 Q w)

def f13_0 (x0 : Value) (x1 : Value) (Q : Value → World → Prop) (w : World) : Prop :=
  kL fun (I : Value → World → Prop) (μ : Value → World → Nat) => I (.int .i64 0) w ∧ ∀ (x5 : Value) (w1 : World), I x5 w1 →
  f13_1 x5 x0 x1 (fun y5 w2 => I y5 w2 ∧ μ y5 w2 < μ x5 w1) Q w1

def f13 (x0 : Value) (x1 : Value) (Q : Value → World → Prop) (w : World) : Prop :=
  klen x0 fun v1 =>
  klen x1 fun v3 =>
  kint .i64 .neq v1 v3 fun v5 =>
  kB v5 fun b17 => kIf b17
  (Q (.bool false) w)
  (f13_0 x0 x1 Q w)

theorem f13_eq (x0 : Value) (x1 : Value) (Q : Value → World → Prop) (w : World) : f13 x0 x1 Q w = fnVC Tryz.prog Tryz.f13 [(4, [5])] (Tryz.f13.body.get rfl) [x0, x1] w Q := by kernel_rfl
theorem f13_ok {x0 : Value} {x1 : Value} {Q : Value → World → Prop} {w : World} (h : f13 x0 x1 Q w) : Meets Tryz.prog 13 #[x0, x1] w Q :=
  sound (c := (Tryz.f13.body.get rfl)) [(4, [5])] Tryz.func13 rfl rfl (args := [x0, x1]) rfl (Eq.mp (f13_eq x0 x1 Q w) h)

/-! (*pasodoble/mill.Mill).Stack -/
def f14_0 (x0 : Value) (Q : Value → World → Prop) (w : World) : Prop :=
  kN x0 <|
  kfld 7 x0 fun v3 =>
  kld v3 w fun v4 =>
  kcall Tryz.prog 36 #[v4] w fun v5 w6 =>
  Q v5 w6

def f14 (x0 : Value) (Q : Value → World → Prop) (w : World) : Prop :=
  keq Tryz.prog .eql 40 false true x0 (.pointer none) w fun v1 w2 =>
  kB v1 fun b7 => kIf b7
  (Q (.slice none 0 0) w2)
  (f14_0 x0 Q w2)

theorem f14_eq (x0 : Value) (Q : Value → World → Prop) (w : World) : f14 x0 Q w = fnVC Tryz.prog Tryz.f14 [] (Tryz.f14.body.get rfl) [x0] w Q := by kernel_rfl
theorem f14_ok {x0 : Value} {Q : Value → World → Prop} {w : World} (h : f14 x0 Q w) : Meets Tryz.prog 14 #[x0] w Q :=
  sound (c := (Tryz.f14.body.get rfl)) [] Tryz.func14 rfl rfl (args := [x0]) rfl (Eq.mp (f14_eq x0 Q w) h)

/-! (*pasodoble/mill.Mill).Fuel -/
def f15_0 (x0 : Value) (Q : Value → World → Prop) (w : World) : Prop :=
  kN x0 <|
  kfld 8 x0 fun v3 =>
  kld v3 w fun v4 =>
  Q v4 w

def f15 (x0 : Value) (Q : Value → World → Prop) (w : World) : Prop :=
  keq Tryz.prog .eql 40 false true x0 (.pointer none) w fun v1 w2 =>
  kB v1 fun b5 => kIf b5
  (Q (.int .i64 0) w2)
  (f15_0 x0 Q w2)

theorem f15_eq (x0 : Value) (Q : Value → World → Prop) (w : World) : f15 x0 Q w = fnVC Tryz.prog Tryz.f15 [] (Tryz.f15.body.get rfl) [x0] w Q := by kernel_rfl
theorem f15_ok {x0 : Value} {Q : Value → World → Prop} {w : World} (h : f15 x0 Q w) : Meets Tryz.prog 15 #[x0] w Q :=
  sound (c := (Tryz.f15.body.get rfl)) [] Tryz.func15 rfl rfl (args := [x0]) rfl (Eq.mp (f15_eq x0 Q w) h)

/-! (*pasodoble/mill.Mill).Over -/
def f16 (x0 : Value) (Q : Value → World → Prop) (w : World) : Prop :=
  keq Tryz.prog .eql 40 false true x0 (.pointer none) w.drew fun v1 w2 =>
  kG (w2 = w.drew) <|
  kB v1 fun b3 => kIf (!b3)
  (kN x0 <|
  kfld 9 x0 fun v4 =>
  kld v4 w2 fun v5 =>
  kG (w2 = w2) <|
  kB v5 fun b6 => kIf (!b6)
  (kN x0 <|
  kfld 6 x0 fun v7 =>
  kld v7 w2 fun v8 =>
  kG (w2 = w2) <|
  kN x0 <|
  kfld 5 x0 fun v9 =>
  kld v9 w2 fun v10 =>
  kG (w2 = w2) <|
  klen v10 fun v11 =>
  kint .i64 .eql v8 v11 fun v13 =>
  Q v13 w2)
  (Q (.bool true) w2))
  (Q (.bool true) w2)

theorem f16_eq (x0 : Value) (Q : Value → World → Prop) (w : World) : f16 x0 Q w = fnVC Tryz.prog Tryz.f16 [] (Tryz.f16.body.get rfl) [x0] w Q := by kernel_rfl
theorem f16_ok {x0 : Value} {Q : Value → World → Prop} {w : World} (h : f16 x0 Q w) : Meets Tryz.prog 16 #[x0] w Q :=
  sound (c := (Tryz.f16.body.get rfl)) [] Tryz.func16 rfl rfl (args := [x0]) rfl (Eq.mp (f16_eq x0 Q w) h)

/-! slices.Clone[[]pasodoble/api.Instr,pasodoble/api.Instr] -/
def f30_0 (x0 : Value) (Q : Value → World → Prop) (w : World) : Prop :=
  kbldS [(.int .i64 0), (.int .i64 0), (.int .i64 0)] 0 [] 49 w fun v3 w4 =>
  ksem Tryz.prog (Builtin.append_ #[50, 50] 0 #[v3, x0]) w4 fun v5 w6 =>
  Q v5 w6

def f30 (x0 : Value) (Q : Value → World → Prop) (w : World) : Prop :=
  keq Tryz.prog .eql 50 false true x0 (.slice none 0 0) w fun v1 w2 =>
  kB v1 fun b7 => kIf b7
  (Q (.slice none 0 0) w2)
  (f30_0 x0 Q w2)

theorem f30_eq (x0 : Value) (Q : Value → World → Prop) (w : World) : f30 x0 Q w = fnVC Tryz.prog Tryz.f30 [] (Tryz.f30.body.get rfl) [x0] w Q := by kernel_rfl
theorem f30_ok {x0 : Value} {Q : Value → World → Prop} {w : World} (h : f30 x0 Q w) : Meets Tryz.prog 30 #[x0] w Q :=
  sound (c := (Tryz.f30.body.get rfl)) [] Tryz.func30 rfl rfl (args := [x0]) rfl (Eq.mp (f30_eq x0 Q w) h)

/-! pasodoble/mill.wrong -/
def f31 (x0 : Value) (Q : Value → World → Prop) (w : World) : Prop :=
  kcall Tryz.prog 25 #[(.string ⟨#[109, 105, 108, 108]⟩), x0] w fun v1 w2 =>
  Q v1 w2

theorem f31_eq (x0 : Value) (Q : Value → World → Prop) (w : World) : f31 x0 Q w = fnVC Tryz.prog Tryz.f31 [] (Tryz.f31.body.get rfl) [x0] w Q := by kernel_rfl
theorem f31_ok {x0 : Value} {Q : Value → World → Prop} {w : World} (h : f31 x0 Q w) : Meets Tryz.prog 31 #[x0] w Q :=
  sound (c := (Tryz.f31.body.get rfl)) [] Tryz.func31 rfl rfl (args := [x0]) rfl (Eq.mp (f31_eq x0 Q w) h)

/-! (*pasodoble/mill.Mill).check -/
def f32_2 (Q : Value → World → Prop) (w : World) : Prop :=
  Q .nilIface w

def f32_1 (x55 : Value) (Q : Value → World → Prop) (w : World) : Prop :=
  kB x55 fun b52 => kIf b52
  (kld (.pointer (some ⟨9, 0, none⟩)) w fun v51 =>
  Q v51 w)
  (f32_2 Q w)

def f32_0 (x0 : Value) (x3 : Value) (x7 : Value) (x34 : Value) (Q : Value → World → Prop) (w : World) : Prop :=
  kB x34 fun b53 => kIf b53
  (kld (.pointer (some ⟨1, 0, none⟩)) w fun v38 =>
  Q v38 w)
  (kB x7 fun b39 => kIf b39
  (kfld 1 x3 fun v40 =>
  kld v40 w.drew fun v41 =>
  kG (w.drew = w.drew) <|
  kint .i64 .lss v41 (.int .i64 0) fun v42 =>
  kB v42 fun b43 => kIf (!b43)
  (kfld 1 x3 fun v44 =>
  kld v44 w.drew fun v45 =>
  kG (w.drew = w.drew) <|
  kN x0 <|
  kfld 5 x0 fun v46 =>
  kld v46 w.drew fun v47 =>
  kG (w.drew = w.drew) <|
  klen v47 fun v48 =>
  kint .i64 .gtr v45 v48 fun v50 =>
  f32_1 v50 Q w.drew)
  (f32_1 (.bool true) Q w.drew))
  (f32_1 (.bool false) Q w.drew))

def f32 (x0 : Value) (x1 : Value) (Q : Value → World → Prop) (w : World) : Prop :=
  knew (Value.cells x1) 49 w fun v1 w2 =>
  kfld 0 v1 fun v3 =>
  kld v3 w2 fun v4 =>
  kcall Tryz.prog 33 #[v4] w2 fun v5 w6 =>
  kext v5 0 fun v7 =>
  kext v5 1 fun v8 =>
  kfld 0 v1 fun v9 =>
  kld v9 w6 fun v10 =>
  kcall Tryz.prog 50 #[v10] w6 fun v11 w12 =>
  kext v11 0 fun v13 =>
  kext v11 1 fun v14 =>
  kN x0 <|
  kfld 8 x0 fun v15 =>
  kld v15 w12 fun v16 =>
  kint .i64 .eql v16 (.int .i64 0) fun v17 =>
  kB v17 fun b55 => kIf b55
  (kld (.pointer (some ⟨0, 0, none⟩)) w12 fun v18 =>
  Q v18 w12)
  (kfld 0 v1 fun v19 =>
  kld v19 w12 fun v20 =>
  kcall Tryz.prog 51 #[v20] w12 fun v21 w22 =>
  kstr .eql v21 (.string ⟨#[]⟩) fun v23 =>
  kB v23 fun b54 => kIf b54
  (kld (.pointer (some ⟨8, 0, none⟩)) w22 fun v24 =>
  Q v24 w22)
  (kN x0 <|
  kfld 7 x0 fun v25 =>
  kld v25 w22 fun v26 =>
  klen v26 fun v27 =>
  kint .i64 .lss v27 v7 fun v29 =>
  kB v29 fun b30 => kIf (!b30)
  (kN x0 <|
  kfld 7 x0 fun v31 =>
  kld v31 w22 fun v32 =>
  klen v32 fun v33 =>
  kint .i64 .sub v33 v7 fun v35 =>
  kint .i64 .add v35 v8 fun v36 =>
  kint .i64 .gtr v36 (.int .i64 16) fun v37 =>
  f32_0 x0 v1 v13 v37 Q w22)
  (f32_0 x0 v1 v13 (.bool true) Q w22)))

theorem f32_eq (x0 : Value) (x1 : Value) (Q : Value → World → Prop) (w : World) : f32 x0 x1 Q w = fnVC Tryz.prog Tryz.f32 [] (Tryz.f32.body.get rfl) [x0, x1] w Q := by kernel_rfl
theorem f32_ok {x0 : Value} {x1 : Value} {Q : Value → World → Prop} {w : World} (h : f32 x0 x1 Q w) : Meets Tryz.prog 32 #[x0, x1] w Q :=
  sound (c := (Tryz.f32.body.get rfl)) [] Tryz.func32 rfl rfl (args := [x0, x1]) rfl (Eq.mp (f32_eq x0 x1 Q w) h)

/-! pasodoble/code.Moves -/
def f33 (x0 : Value) (Q : Value → World → Prop) (w : World) : Prop :=
  kcall Tryz.prog 52 #[x0] w fun v1 w2 =>
  kext v1 0 fun v3 =>
  kext v1 1 fun v4 =>
  knew #[(.string ⟨#[]⟩), (.int .i64 0), (.int .i64 0), (.int .i64 0)] 125 w2 fun v5 w6 =>
  kst 4 v5 v3 w6 fun w7 =>
  kfld 2 v5 fun v8 =>
  kld v8 w7.drew fun v9 =>
  kG (w7.drew = w7.drew) <|
  kfld 3 v5 fun v10 =>
  kld v10 w7.drew fun v11 =>
  kG (w7.drew = w7.drew) <|
  Q (.tuple #[v9, v11]) w7.drew

theorem f33_eq (x0 : Value) (Q : Value → World → Prop) (w : World) : f33 x0 Q w = fnVC Tryz.prog Tryz.f33 [] (Tryz.f33.body.get rfl) [x0] w Q := by kernel_rfl
theorem f33_ok {x0 : Value} {Q : Value → World → Prop} {w : World} (h : f33 x0 Q w) : Meets Tryz.prog 33 #[x0] w Q :=
  sound (c := (Tryz.f33.body.get rfl)) [] Tryz.func33 rfl rfl (args := [x0]) rfl (Eq.mp (f33_eq x0 Q w) h)

/-! (*pasodoble/mill.Mill).do -/
def f34_1 (x0 : Value) (x2 : Value) (Q : Value → World → Prop) (w : World) : Prop :=
  kix (some (.slice 3)) (some 1) x2 (.int .i64 0) fun v16 =>
  kld v16 w.drew fun v17 =>
  kG (w.drew = w.drew) <|
  kix (some (.slice 3)) (some 1) x2 (.int .i64 0) fun v18 =>
  kld v18 w.drew fun v19 =>
  kG (w.drew = w.drew) <|
  kbldS [(.int .i64 0)] 2 [(0, 1, v17), (1, 1, v19)] 3 w.drew fun v20 w21 =>
  kcall Tryz.prog 54 #[x0, v20] w21 fun v22 w23 =>
  Q (.tuple #[]) w23

def f34_3 (x0 : Value) (x2 : Value) (Q : Value → World → Prop) (w : World) : Prop :=
  kix (some (.slice 3)) (some 1) x2 (.int .i64 1) fun v25 =>
  kld v25 w.drew fun v26 =>
  kG (w.drew = w.drew) <|
  kix (some (.slice 3)) (some 1) x2 (.int .i64 0) fun v27 =>
  kld v27 w.drew fun v28 =>
  kG (w.drew = w.drew) <|
  kbldS [(.int .i64 0)] 2 [(0, 1, v26), (1, 1, v28)] 3 w.drew fun v29 w30 =>
  kcall Tryz.prog 54 #[x0, v29] w30 fun v31 w32 =>
  Q (.tuple #[]) w32

def f34_5 (x0 : Value) (x2 : Value) (Q : Value → World → Prop) (w : World) : Prop :=
  kix (some (.slice 3)) (some 1) x2 (.int .i64 0) fun v34 =>
  kld v34 w.drew fun v35 =>
  kG (w.drew = w.drew) <|
  kix (some (.slice 3)) (some 1) x2 (.int .i64 1) fun v36 =>
  kld v36 w.drew fun v37 =>
  kG (w.drew = w.drew) <|
  kix (some (.slice 3)) (some 1) x2 (.int .i64 0) fun v38 =>
  kld v38 w.drew fun v39 =>
  kG (w.drew = w.drew) <|
  kbldS [(.int .i64 0)] 3 [(0, 1, v35), (1, 1, v37), (2, 1, v39)] 3 w.drew fun v40 w41 =>
  kcall Tryz.prog 54 #[x0, v40] w41 fun v42 w43 =>
  Q (.tuple #[]) w43

def f34_7 (x0 : Value) (x2 : Value) (Q : Value → World → Prop) (w : World) : Prop :=
  kix (some (.slice 3)) (some 1) x2 (.int .i64 0) fun v45 =>
  kld v45 w fun v46 =>
  kun .neg (some (.int .i64)) v46 fun v47 =>
  kbldS [(.int .i64 0)] 1 [(0, 1, v47)] 3 w fun v48 w49 =>
  kcall Tryz.prog 54 #[x0, v48] w49 fun v50 w51 =>
  Q (.tuple #[]) w51

def f34_9 (x0 : Value) (x2 : Value) (Q : Value → World → Prop) (w : World) : Prop :=
  kix (some (.slice 3)) (some 1) x2 (.int .i64 0) fun v53 =>
  kld v53 w fun v54 =>
  kint .i64 .eql v54 (.int .i64 0) fun v55 =>
  kcall Tryz.prog 55 #[v55] w fun v56 w57 =>
  kbldS [(.int .i64 0)] 1 [(0, 1, v56)] 3 w57 fun v58 w59 =>
  kcall Tryz.prog 54 #[x0, v58] w59 fun v60 w61 =>
  Q (.tuple #[]) w61

def f34_11 (x0 : Value) (x2 : Value) (Q : Value → World → Prop) (w : World) : Prop :=
  kix (some (.slice 3)) (some 1) x2 (.int .i64 0) fun v63 =>
  kld v63 w fun v64 =>
  kcall Tryz.prog 56 #[x0, v64] w fun v65 w66 =>
  kbldS [(.int .i64 0)] 1 [(0, 1, v65)] 3 w66 fun v67 w68 =>
  kcall Tryz.prog 54 #[x0, v67] w68 fun v69 w70 =>
  Q (.tuple #[]) w70

def f34_15 (x0 : Value) (Q : Value → World → Prop) (w : World) : Prop :=
  kN x0 <|
  kfld 9 x0 fun v73 =>
  kst 1 v73 (.bool true) w fun w74 =>
  Q (.tuple #[]) w74

def f34_18 (x0 : Value) (x4 : Value) (Q : Value → World → Prop) (w : World) : Prop :=
  kfld 1 x4 fun v79 =>
  kld v79 w fun v80 =>
  kN x0 <|
  kfld 6 x0 fun v81 =>
  kst 1 v81 v80 w fun w82 =>
  Q (.tuple #[]) w82

def f34_17 (x0 : Value) (x2 : Value) (x4 : Value) (Q : Value → World → Prop) (w : World) : Prop :=
  kix (some (.slice 3)) (some 1) x2 (.int .i64 0) fun v76 =>
  kld v76 w fun v77 =>
  kint .i64 .neq v77 (.int .i64 0) fun v78 =>
  kB v78 fun b83 => kIf b83
  (Q (.tuple #[]) w)
  (f34_18 x0 x4 Q w)

def f34_22 (x0 : Value) (x2 : Value) (x4 : Value) (Q : Value → World → Prop) (w : World) : Prop :=
  kN x0 <|
  kfld 0 x0 fun v86 =>
  kldN 3 x4 w.drew fun v87 =>
  kG (w.drew = w.drew) <|
  kix (some (.slice 3)) (some 1) x2 (.int .i64 0) fun v88 =>
  kld v88 w.drew fun v89 =>
  kG (w.drew = w.drew) <|
  kcall Tryz.prog 57 #[v86, v87, v89] w.drew fun v90 w91 =>
  Q (.tuple #[]) w91

def f34_25 (x0 : Value) (x4 : Value) (Q : Value → World → Prop) (w : World) : Prop :=
  kN x0 <|
  kfld 0 x0 fun v93 =>
  kldN 3 x4 w.drew fun v94 =>
  kG (w.drew = w.drew) <|
  kcall Tryz.prog 57 #[v93, v94, (.int .i64 0)] w.drew fun v95 w96 =>
  Q (.tuple #[]) w96

def f34_26 (x0 : Value) (x2 : Value) (x4 : Value) (Q : Value → World → Prop) (w : World) : Prop :=
  kfld 0 x4 fun v97 =>
  kld v97 w.drew fun v98 =>
  kG (w.drew = w.drew) <|
  kix (some (.slice 3)) (some 1) x2 (.int .i64 0) fun v99 =>
  kld v99 w.drew fun v100 =>
  kG (w.drew = w.drew) <|
  kix (some (.slice 3)) (some 1) x2 (.int .i64 1) fun v101 =>
  kld v101 w.drew fun v102 =>
  kG (w.drew = w.drew) <|
  kcall Tryz.prog 58 #[v98, v100, v102] w.drew fun v103 w104 =>
  kbldS [(.int .i64 0)] 1 [(0, 1, v103)] 3 w104 fun v105 w106 =>
  kcall Tryz.prog 54 #[x0, v105] w106 fun v107 w108 =>
  Q (.tuple #[]) w108

def f34_24 (x0 : Value) (x2 : Value) (x4 : Value) (x47 : Value) (Q : Value → World → Prop) (w : World) : Prop :=
  kB x47 fun b109 => kIf b109
  (f34_25 x0 x4 Q w)
  (f34_26 x0 x2 x4 Q w)

def f34_23 (x0 : Value) (x2 : Value) (x4 : Value) (x22 : Value) (Q : Value → World → Prop) (w : World) : Prop :=
  kint .i64 .eql x22 (.int .i64 31) fun v92 =>
  kB v92 fun b115 => kIf b115
  (f34_24 x0 x2 x4 v92 Q w)
  (kint .i64 .eql x22 (.int .i64 32) fun v110 =>
  kB v110 fun b114 => kIf b114
  (f34_24 x0 x2 x4 v110 Q w)
  (kint .i64 .eql x22 (.int .i64 33) fun v111 =>
  kB v111 fun b113 => kIf b113
  (f34_24 x0 x2 x4 v111 Q w)
  (kint .i64 .eql x22 (.int .i64 34) fun v112 =>
  f34_24 x0 x2 x4 v112 Q w)))

def f34_21 (x0 : Value) (x2 : Value) (x4 : Value) (x22 : Value) (x44 : Value) (Q : Value → World → Prop) (w : World) : Prop :=
  kB x44 fun b116 => kIf b116
  (f34_22 x0 x2 x4 Q w)
  (f34_23 x0 x2 x4 x22 Q w)

def f34_20 (x0 : Value) (x2 : Value) (x4 : Value) (x22 : Value) (Q : Value → World → Prop) (w : World) : Prop :=
  kint .i64 .eql x22 (.int .i64 23) fun v85 =>
  kB v85 fun b118 => kIf b118
  (f34_21 x0 x2 x4 x22 v85 Q w)
  (kint .i64 .eql x22 (.int .i64 27) fun v117 =>
  f34_21 x0 x2 x4 x22 v117 Q w)

def f34_19 (x0 : Value) (x2 : Value) (x4 : Value) (x22 : Value) (Q : Value → World → Prop) (w : World) : Prop :=
  kint .i64 .eql x22 (.int .i64 20) fun v84 =>
  kB v84 fun b119 => kIf b119
  (f34_18 x0 x4 Q w)
  (f34_20 x0 x2 x4 x22 Q w)

def f34_16 (x0 : Value) (x2 : Value) (x4 : Value) (x22 : Value) (Q : Value → World → Prop) (w : World) : Prop :=
  kint .i64 .eql x22 (.int .i64 21) fun v75 =>
  kB v75 fun b120 => kIf b120
  (f34_17 x0 x2 x4 Q w)
  (f34_19 x0 x2 x4 x22 Q w)

def f34_14 (x0 : Value) (x2 : Value) (x4 : Value) (x22 : Value) (Q : Value → World → Prop) (w : World) : Prop :=
  kint .i64 .eql x22 (.int .i64 35) fun v72 =>
  kB v72 fun b121 => kIf b121
  (f34_15 x0 Q w)
  (f34_16 x0 x2 x4 x22 Q w)

def f34_13 (x0 : Value) (x2 : Value) (x4 : Value) (x22 : Value) (x35 : Value) (Q : Value → World → Prop) (w : World) : Prop :=
  kB x35 fun b122 => kIf b122
  (Q (.tuple #[]) w)
  (f34_14 x0 x2 x4 x22 Q w)

def f34_12 (x0 : Value) (x2 : Value) (x4 : Value) (x22 : Value) (Q : Value → World → Prop) (w : World) : Prop :=
  kint .i64 .eql x22 (.int .i64 0) fun v71 =>
  kB v71 fun b124 => kIf b124
  (f34_13 x0 x2 x4 x22 v71 Q w)
  (kint .i64 .eql x22 (.int .i64 3) fun v123 =>
  f34_13 x0 x2 x4 x22 v123 Q w)

def f34_10 (x0 : Value) (x2 : Value) (x4 : Value) (x22 : Value) (Q : Value → World → Prop) (w : World) : Prop :=
  kint .i64 .eql x22 (.int .i64 28) fun v62 =>
  kB v62 fun b125 => kIf b125
  (f34_11 x0 x2 Q w)
  (f34_12 x0 x2 x4 x22 Q w)

def f34_8 (x0 : Value) (x2 : Value) (x4 : Value) (x22 : Value) (Q : Value → World → Prop) (w : World) : Prop :=
  kint .i64 .eql x22 (.int .i64 19) fun v52 =>
  kB v52 fun b126 => kIf b126
  (f34_9 x0 x2 Q w)
  (f34_10 x0 x2 x4 x22 Q w)

def f34_6 (x0 : Value) (x2 : Value) (x4 : Value) (x22 : Value) (Q : Value → World → Prop) (w : World) : Prop :=
  kint .i64 .eql x22 (.int .i64 11) fun v44 =>
  kB v44 fun b127 => kIf b127
  (f34_7 x0 x2 Q w)
  (f34_8 x0 x2 x4 x22 Q w)

def f34_4 (x0 : Value) (x2 : Value) (x4 : Value) (x22 : Value) (Q : Value → World → Prop) (w : World) : Prop :=
  kint .i64 .eql x22 (.int .i64 5) fun v33 =>
  kB v33 fun b128 => kIf b128
  (f34_5 x0 x2 Q w)
  (f34_6 x0 x2 x4 x22 Q w)

def f34_2 (x0 : Value) (x2 : Value) (x4 : Value) (x22 : Value) (Q : Value → World → Prop) (w : World) : Prop :=
  kint .i64 .eql x22 (.int .i64 4) fun v24 =>
  kB v24 fun b129 => kIf b129
  (f34_3 x0 x2 Q w)
  (f34_4 x0 x2 x4 x22 Q w)

def f34_0 (x0 : Value) (x2 : Value) (x4 : Value) (Q : Value → World → Prop) (w : World) : Prop :=
  kfld 0 x4 fun v13 =>
  kld v13 w fun v14 =>
  kint .i64 .eql v14 (.int .i64 2) fun v15 =>
  kB v15 fun b130 => kIf b130
  (f34_1 x0 x2 Q w)
  (f34_2 x0 x2 x4 v14 Q w)

def f34 (x0 : Value) (x1 : Value) (x2 : Value) (Q : Value → World → Prop) (w : World) : Prop :=
  knew (Value.cells x1) 49 w fun v1 w2 =>
  kN x0 <|
  kfld 0 x0 fun v3 =>
  kldN 3 v1 w2.drew fun v4 =>
  kG (w2.drew = w2.drew) <|
  kcall Tryz.prog 53 #[v3, v4] w2.drew fun v5 w6 =>
  kext v5 0 fun v7 =>
  kext v5 1 fun v8 =>
  kB v8 fun b131 => kIf b131
  (kbldS [(.int .i64 0)] 1 [(0, 1, v7)] 3 w6 fun v9 w10 =>
  kcall Tryz.prog 54 #[x0, v9] w10 fun v11 w12 =>
  Q (.tuple #[]) w12)
  (f34_0 x0 x2 v1 Q w6)

theorem f34_eq (x0 : Value) (x1 : Value) (x2 : Value) (Q : Value → World → Prop) (w : World) : f34 x0 x1 x2 Q w = fnVC Tryz.prog Tryz.f34 [] (Tryz.f34.body.get rfl) [x0, x1, x2] w Q := by kernel_rfl
theorem f34_ok {x0 : Value} {x1 : Value} {x2 : Value} {Q : Value → World → Prop} {w : World} (h : f34 x0 x1 x2 Q w) : Meets Tryz.prog 34 #[x0, x1, x2] w Q :=
  sound (c := (Tryz.f34.body.get rfl)) [] Tryz.func34 rfl rfl (args := [x0, x1, x2]) rfl (Eq.mp (f34_eq x0 x1 x2 Q w) h)

/-! (*pasodoble/mill.Mill).take -/
def f35 (x0 : Value) (x1 : Value) (Q : Value → World → Prop) (w : World) : Prop :=
  kN x0 <|
  kfld 7 x0 fun v1 =>
  kld v1 w fun v2 =>
  klen v2 fun v3 =>
  kint .i64 .sub v3 x1 fun v5 =>
  kN x0 <|
  kfld 7 x0 fun v6 =>
  kld v6 w fun v7 =>
  ksl (some (.slice 3)) (some 1) v7 (some v5) none fun v8 =>
  kcall Tryz.prog 36 #[v8] w fun v9 w10 =>
  kN x0 <|
  kfld 7 x0 fun v11 =>
  kld v11 w10 fun v12 =>
  ksl (some (.slice 3)) (some 1) v12 none (some v5) fun v13 =>
  kN x0 <|
  kfld 7 x0 fun v14 =>
  kst 1 v14 v13 w10 fun w15 =>
  Q v9 w15

theorem f35_eq (x0 : Value) (x1 : Value) (Q : Value → World → Prop) (w : World) : f35 x0 x1 Q w = fnVC Tryz.prog Tryz.f35 [] (Tryz.f35.body.get rfl) [x0, x1] w Q := by kernel_rfl
theorem f35_ok {x0 : Value} {x1 : Value} {Q : Value → World → Prop} {w : World} (h : f35 x0 x1 Q w) : Meets Tryz.prog 35 #[x0, x1] w Q :=
  sound (c := (Tryz.f35.body.get rfl)) [] Tryz.func35 rfl rfl (args := [x0, x1]) rfl (Eq.mp (f35_eq x0 x1 Q w) h)

/-! slices.Clone[[]int,int] -/
def f36_0 (x0 : Value) (Q : Value → World → Prop) (w : World) : Prop :=
  kbldS [(.int .i64 0)] 0 [] 3 w fun v3 w4 =>
  ksem Tryz.prog (Builtin.append_ #[56, 56] 0 #[v3, x0]) w4 fun v5 w6 =>
  Q v5 w6

def f36 (x0 : Value) (Q : Value → World → Prop) (w : World) : Prop :=
  keq Tryz.prog .eql 56 false true x0 (.slice none 0 0) w fun v1 w2 =>
  kB v1 fun b7 => kIf b7
  (Q (.slice none 0 0) w2)
  (f36_0 x0 Q w2)

theorem f36_eq (x0 : Value) (Q : Value → World → Prop) (w : World) : f36 x0 Q w = fnVC Tryz.prog Tryz.f36 [] (Tryz.f36.body.get rfl) [x0] w Q := by kernel_rfl
theorem f36_ok {x0 : Value} {Q : Value → World → Prop} {w : World} (h : f36 x0 Q w) : Meets Tryz.prog 36 #[x0] w Q :=
  sound (c := (Tryz.f36.body.get rfl)) [] Tryz.func36 rfl rfl (args := [x0]) rfl (Eq.mp (f36_eq x0 Q w) h)

/-! pasodoble/code.Jumps -/
def f50_0 (Q : Value → World → Prop) (w : World) : Prop :=
  Q (.tuple #[(.bool false), (.bool false)]) w

def f50_2 (Q : Value → World → Prop) (w : World) : Prop :=
  Q (.tuple #[(.bool true), (.bool false)]) w

def f50_6 (x2 : Value) (x3 : Value) (Q : Value → World → Prop) (w : World) : Prop :=
  Q (.tuple #[x2, x3]) w

def f50_5 (x2 : Value) (x5 : Value) (Q : Value → World → Prop) (w : World) : Prop :=
  f50_6 x2 x5 Q w

def f50_4 (x5 : Value) (Q : Value → World → Prop) (w : World) : Prop :=
  f50_5 (.bool true) x5 Q w

def f50_3 (x2 : Value) (x5 : Value) (x11 : Value) (Q : Value → World → Prop) (w : World) : Prop :=
  kint .i64 .eql x11 (.int .i64 21) fun v10 =>
  kB v10 fun b11 => kIf b11
  (f50_4 x5 Q w)
  (f50_5 x2 x5 Q w)

def f50_1 (x2 : Value) (x5 : Value) (x11 : Value) (Q : Value → World → Prop) (w : World) : Prop :=
  kint .i64 .eql x11 (.int .i64 20) fun v9 =>
  kB v9 fun b12 => kIf b12
  (f50_2 Q w)
  (f50_3 x2 x5 x11 Q w)

def f50 (x0 : Value) (Q : Value → World → Prop) (w : World) : Prop :=
  kcall Tryz.prog 52 #[x0] w fun v1 w2 =>
  kext v1 0 fun v3 =>
  kext v1 1 fun v4 =>
  knew #[(.string ⟨#[]⟩), (.int .i64 0), (.int .i64 0), (.int .i64 0)] 125 w2 fun v5 w6 =>
  kst 4 v5 v3 w6 fun w7 =>
  kint .i64 .eql x0 (.int .i64 35) fun v8 =>
  kB v8 fun b13 => kIf b13
  (f50_0 Q w7)
  (f50_1 (.bool false) v4 x0 Q w7)

theorem f50_eq (x0 : Value) (Q : Value → World → Prop) (w : World) : f50 x0 Q w = fnVC Tryz.prog Tryz.f50 [] (Tryz.f50.body.get rfl) [x0] w Q := by kernel_rfl
theorem f50_ok {x0 : Value} {Q : Value → World → Prop} {w : World} (h : f50 x0 Q w) : Meets Tryz.prog 50 #[x0] w Q :=
  sound (c := (Tryz.f50.body.get rfl)) [] Tryz.func50 rfl rfl (args := [x0]) rfl (Eq.mp (f50_eq x0 Q w) h)

/-! pasodoble/code.Name -/
def f51 (x0 : Value) (Q : Value → World → Prop) (w : World) : Prop :=
  kcall Tryz.prog 52 #[x0] w fun v1 w2 =>
  kext v1 0 fun v3 =>
  kext v1 1 fun v4 =>
  knew #[(.string ⟨#[]⟩), (.int .i64 0), (.int .i64 0), (.int .i64 0)] 125 w2 fun v5 w6 =>
  kst 4 v5 v3 w6 fun w7 =>
  kfld 0 v5 fun v8 =>
  kld v8 w7 fun v9 =>
  Q v9 w7

theorem f51_eq (x0 : Value) (Q : Value → World → Prop) (w : World) : f51 x0 Q w = fnVC Tryz.prog Tryz.f51 [] (Tryz.f51.body.get rfl) [x0] w Q := by kernel_rfl
theorem f51_ok {x0 : Value} {Q : Value → World → Prop} {w : World} (h : f51 x0 Q w) : Meets Tryz.prog 51 #[x0] w Q :=
  sound (c := (Tryz.f51.body.get rfl)) [] Tryz.func51 rfl rfl (args := [x0]) rfl (Eq.mp (f51_eq x0 Q w) h)

/-! pasodoble/code.of -/
def f52_1 (x0 : Value) (x2 : Value) (Q : Value → World → Prop) (w : World) : Prop :=
  kix (some (.array 36 125)) (some 4) (.pointer (some ⟨18, 0, none⟩)) x0 fun v9 =>
  kldN 4 v9 w fun v10 =>
  kst 4 x2 v10 w fun w11 =>
  kldN 4 x2 w11 fun v12 =>
  Q (.tuple #[v12, (.bool true)]) w11

def f52_0 (x0 : Value) (x2 : Value) (x9 : Value) (Q : Value → World → Prop) (w : World) : Prop :=
  kB x9 fun b13 => kIf b13
  (kbld [(.string ⟨#[]⟩), (.int .i64 0), (.int .i64 0), (.int .i64 0)] [] fun v6 =>
  kst 4 x2 v6 w fun w7 =>
  kldN 4 x2 w7 fun v8 =>
  Q (.tuple #[v8, (.bool false)]) w7)
  (f52_1 x0 x2 Q w)

def f52 (x0 : Value) (Q : Value → World → Prop) (w : World) : Prop :=
  knew #[(.string ⟨#[]⟩), (.int .i64 0), (.int .i64 0), (.int .i64 0)] 125 w fun v1 w2 =>
  kint .i64 .lss x0 (.int .i64 0) fun v3 =>
  kB v3 fun b4 => kIf (!b4)
  (kint .i64 .geq x0 (.int .i64 36) fun v5 =>
  f52_0 x0 v1 v5 Q w2)
  (f52_0 x0 v1 (.bool true) Q w2)

theorem f52_eq (x0 : Value) (Q : Value → World → Prop) (w : World) : f52 x0 Q w = fnVC Tryz.prog Tryz.f52 [] (Tryz.f52.body.get rfl) [x0] w Q := by kernel_rfl
theorem f52_ok {x0 : Value} {Q : Value → World → Prop} {w : World} (h : f52 x0 Q w) : Meets Tryz.prog 52 #[x0] w Q :=
  sound (c := (Tryz.f52.body.get rfl)) [] Tryz.func52 rfl rfl (args := [x0]) rfl (Eq.mp (f52_eq x0 Q w) h)

/-! (*pasodoble/mill.Host).read -/
def f53_1 (x0 : Value) (x3 : Value) (Q : Value → World → Prop) (w : World) : Prop :=
  kfld 1 x3 fun v35 =>
  kld v35 w.drew fun v36 =>
  kG (w.drew = w.drew) <|
  kN x0 <|
  kfld 2 x0 fun v37 =>
  kix (some (.array 2 3)) (some 1) v37 v36 fun v38 =>
  kld v38 w.drew fun v39 =>
  kG (w.drew = w.drew) <|
  Q (.tuple #[v39, (.bool true)]) w.drew

def f53_0 (x0 : Value) (x3 : Value) (x44 : Value) (Q : Value → World → Prop) (w : World) : Prop :=
  kB x44 fun b40 => kIf b40
  (Q (.tuple #[(.int .i64 0), (.bool true)]) w)
  (f53_1 x0 x3 Q w)

def f53_2 (Q : Value → World → Prop) (w : World) : Prop :=
  Q (.tuple #[(.int .i64 0), (.bool false)]) w

def f53 (x0 : Value) (x1 : Value) (Q : Value → World → Prop) (w : World) : Prop :=
  knew (Value.cells x1) 49 w fun v1 w2 =>
  kfld 0 v1 fun v3 =>
  kld v3 w2 fun v4 =>
  kint .i64 .eql v4 (.int .i64 1) fun v5 =>
  kB v5 fun b64 => kIf b64
  (kfld 1 v1 fun v6 =>
  kld v6 w2 fun v7 =>
  Q (.tuple #[v7, (.bool true)]) w2)
  (kint .i64 .eql v4 (.int .i64 22) fun v8 =>
  kB v8 fun b63 => kIf b63
  (kfld 1 v1 fun v9 =>
  kld v9 w2 fun v10 =>
  kfld 2 v1 fun v11 =>
  kld v11 w2 fun v12 =>
  kcall Tryz.prog 82 #[x0, v10, v12] w2 fun v13 w14 =>
  Q (.tuple #[v13, (.bool true)]) w14)
  (kint .i64 .eql v4 (.int .i64 24) fun v15 =>
  kB v15 fun b62 => kIf b62
  (kfld 1 v1 fun v16 =>
  kld v16 w2 fun v17 =>
  kcall Tryz.prog 83 #[x0, v17] w2 fun v18 w19 =>
  kext v18 0 fun v20 =>
  kext v18 1 fun v21 =>
  knew #[(.int .i64 0), (.int .i64 0), (.int .i64 0), (.int .i64 0), (.int .i64 0), (.int .i64 0)] 152 w19 fun v22 w23 =>
  kst 6 v22 v20 w23 fun w24 =>
  kcall Tryz.prog 55 #[v21] w24 fun v25 w26 =>
  Q (.tuple #[v25, (.bool true)]) w26)
  (kint .i64 .eql v4 (.int .i64 25) fun v27 =>
  kB v27 fun b61 => kIf b61
  (kfld 1 v1 fun v28 =>
  kld v28 w2 fun v29 =>
  kint .i64 .lss v29 (.int .i64 0) fun v30 =>
  kB v30 fun b31 => kIf (!b31)
  (kfld 1 v1 fun v32 =>
  kld v32 w2 fun v33 =>
  kint .i64 .geq v33 (.int .i64 2) fun v34 =>
  f53_0 x0 v1 v34 Q w2)
  (f53_0 x0 v1 (.bool true) Q w2))
  (kint .i64 .eql v4 (.int .i64 26) fun v41 =>
  kB v41 fun b60 => kIf b60
  (kN x0 <|
  kfld 0 x0 fun v42 =>
  kld v42 w2.drew fun v43 =>
  kG (w2.drew = w2.drew) <|
  kfld 1 v1 fun v44 =>
  kld v44 w2.drew fun v45 =>
  kG (w2.drew = w2.drew) <|
  kcall Tryz.prog 84 #[v43, v45] w2.drew fun v46 w47 =>
  kext v46 0 fun v48 =>
  kext v46 1 fun v49 =>
  Q (.tuple #[v48, (.bool true)]) w47)
  (kint .i64 .eql v4 (.int .i64 29) fun v50 =>
  kB v50 fun b59 => kIf b59
  (kN x0 <|
  kfld 4 x0 fun v51 =>
  kld v51 w2 fun v52 =>
  Q (.tuple #[v52, (.bool true)]) w2)
  (kint .i64 .eql v4 (.int .i64 30) fun v53 =>
  kB v53 fun b58 => kIf b58
  (kN x0 <|
  kfld 0 x0 fun v54 =>
  kld v54 w2 fun v55 =>
  kcall Tryz.prog 85 #[v55] w2 fun v56 w57 =>
  Q (.tuple #[v56, (.bool true)]) w57)
  (f53_2 Q w2)))))))

theorem f53_eq (x0 : Value) (x1 : Value) (Q : Value → World → Prop) (w : World) : f53 x0 x1 Q w = fnVC Tryz.prog Tryz.f53 [] (Tryz.f53.body.get rfl) [x0, x1] w Q := by kernel_rfl
theorem f53_ok {x0 : Value} {x1 : Value} {Q : Value → World → Prop} {w : World} (h : f53 x0 x1 Q w) : Meets Tryz.prog 53 #[x0, x1] w Q :=
  sound (c := (Tryz.f53.body.get rfl)) [] Tryz.func53 rfl rfl (args := [x0, x1]) rfl (Eq.mp (f53_eq x0 x1 Q w) h)

/-! (*pasodoble/mill.Mill).lay -/
def f54 (x0 : Value) (x1 : Value) (Q : Value → World → Prop) (w : World) : Prop :=
  kN x0 <|
  kfld 7 x0 fun v1 =>
  kld v1 w fun v2 =>
  ksem Tryz.prog (Builtin.append_ #[56, 56] 0 #[v2, x1]) w fun v3 w4 =>
  kN x0 <|
  kfld 7 x0 fun v5 =>
  kst 1 v5 v3 w4 fun w6 =>
  Q (.tuple #[]) w6

theorem f54_eq (x0 : Value) (x1 : Value) (Q : Value → World → Prop) (w : World) : f54 x0 x1 Q w = fnVC Tryz.prog Tryz.f54 [] (Tryz.f54.body.get rfl) [x0, x1] w Q := by kernel_rfl
theorem f54_ok {x0 : Value} {x1 : Value} {Q : Value → World → Prop} {w : World} (h : f54 x0 x1 Q w) : Meets Tryz.prog 54 #[x0, x1] w Q :=
  sound (c := (Tryz.f54.body.get rfl)) [] Tryz.func54 rfl rfl (args := [x0, x1]) rfl (Eq.mp (f54_eq x0 x1 Q w) h)

/-! pasodoble/mill.flag -/
def f55_0 (Q : Value → World → Prop) (w : World) : Prop :=
  Q (.int .i64 0) w

def f55 (x0 : Value) (Q : Value → World → Prop) (w : World) : Prop :=
  kB x0 fun b1 => kIf b1
  (Q (.int .i64 1) w)
  (f55_0 Q w)

theorem f55_eq (x0 : Value) (Q : Value → World → Prop) (w : World) : f55 x0 Q w = fnVC Tryz.prog Tryz.f55 [] (Tryz.f55.body.get rfl) [x0] w Q := by kernel_rfl
theorem f55_ok {x0 : Value} {Q : Value → World → Prop} {w : World} (h : f55 x0 Q w) : Meets Tryz.prog 55 #[x0] w Q :=
  sound (c := (Tryz.f55.body.get rfl)) [] Tryz.func55 rfl rfl (args := [x0]) rfl (Eq.mp (f55_eq x0 Q w) h)

/-! pasodoble/mill.calc -/
def f58_1 (x1 : Value) (x2 : Value) (Q : Value → World → Prop) (w : World) : Prop :=
  kint .i64 .add x1 x2 fun v3 =>
  Q v3 w

def f58_0 (x1 : Value) (x2 : Value) (Q : Value → World → Prop) (w : World) : Prop :=
  kun .neg (some (.int .i64)) x2 fun v2 =>
  f58_1 x1 v2 Q w

def f58_4 (x1 : Value) (x2 : Value) (Q : Value → World → Prop) (w : World) : Prop :=
  kint .i64 .mul x1 x2 fun v6 =>
  Q v6 w

def f58_6 (x1 : Value) (x2 : Value) (Q : Value → World → Prop) (w : World) : Prop :=
  kcall Tryz.prog 90 #[x1, x2] w fun v8 w9 =>
  Q v8 w9

def f58_9 (x1 : Value) (x2 : Value) (Q : Value → World → Prop) (w : World) : Prop :=
  kcall Tryz.prog 90 #[x1, x2] w fun v12 w13 =>
  kint .i64 .mul x2 v12 fun v14 =>
  kint .i64 .sub x1 v14 fun v15 =>
  Q v15 w13

def f58_8 (x1 : Value) (x2 : Value) (Q : Value → World → Prop) (w : World) : Prop :=
  kint .i64 .eql x2 (.int .i64 0) fun v11 =>
  kB v11 fun b16 => kIf b16
  (Q (.int .i64 0) w)
  (f58_9 x1 x2 Q w)

def f58_11 (x1 : Value) (x2 : Value) (Q : Value → World → Prop) (w : World) : Prop :=
  kint .i64 .and x1 x2 fun v18 =>
  Q v18 w

def f58_13 (x1 : Value) (x2 : Value) (Q : Value → World → Prop) (w : World) : Prop :=
  kint .i64 .or x1 x2 fun v20 =>
  Q v20 w

def f58_15 (x1 : Value) (x2 : Value) (Q : Value → World → Prop) (w : World) : Prop :=
  kint .i64 .xor x1 x2 fun v22 =>
  Q v22 w

def f58_17 (x1 : Value) (x2 : Value) (Q : Value → World → Prop) (w : World) : Prop :=
  kcnv .u64 x2 fun v24 =>
  kint .u64 .rem v24 (.int .u64 64) fun v25 =>
  kint .i64 .shl x1 v25 fun v26 =>
  Q v26 w

def f58_19 (x1 : Value) (x2 : Value) (Q : Value → World → Prop) (w : World) : Prop :=
  kcnv .u64 x2 fun v28 =>
  kint .u64 .rem v28 (.int .u64 64) fun v29 =>
  kint .i64 .shr x1 v29 fun v30 =>
  Q v30 w

def f58_21 (x1 : Value) (x2 : Value) (Q : Value → World → Prop) (w : World) : Prop :=
  kint .i64 .eql x1 x2 fun v32 =>
  kcall Tryz.prog 55 #[v32] w fun v33 w34 =>
  Q v33 w34

def f58_22 (x1 : Value) (x2 : Value) (Q : Value → World → Prop) (w : World) : Prop :=
  kint .i64 .lss x1 x2 fun v35 =>
  kcall Tryz.prog 55 #[v35] w fun v36 w37 =>
  Q v36 w37

def f58_20 (x1 : Value) (x2 : Value) (x7 : Value) (Q : Value → World → Prop) (w : World) : Prop :=
  kint .i64 .eql x7 (.int .i64 17) fun v31 =>
  kB v31 fun b38 => kIf b38
  (f58_21 x1 x2 Q w)
  (f58_22 x1 x2 Q w)

def f58_18 (x1 : Value) (x2 : Value) (x7 : Value) (Q : Value → World → Prop) (w : World) : Prop :=
  kint .i64 .eql x7 (.int .i64 16) fun v27 =>
  kB v27 fun b39 => kIf b39
  (f58_19 x1 x2 Q w)
  (f58_20 x1 x2 x7 Q w)

def f58_16 (x1 : Value) (x2 : Value) (x7 : Value) (Q : Value → World → Prop) (w : World) : Prop :=
  kint .i64 .eql x7 (.int .i64 15) fun v23 =>
  kB v23 fun b40 => kIf b40
  (f58_17 x1 x2 Q w)
  (f58_18 x1 x2 x7 Q w)

def f58_14 (x1 : Value) (x2 : Value) (x7 : Value) (Q : Value → World → Prop) (w : World) : Prop :=
  kint .i64 .eql x7 (.int .i64 14) fun v21 =>
  kB v21 fun b41 => kIf b41
  (f58_15 x1 x2 Q w)
  (f58_16 x1 x2 x7 Q w)

def f58_12 (x1 : Value) (x2 : Value) (x7 : Value) (Q : Value → World → Prop) (w : World) : Prop :=
  kint .i64 .eql x7 (.int .i64 13) fun v19 =>
  kB v19 fun b42 => kIf b42
  (f58_13 x1 x2 Q w)
  (f58_14 x1 x2 x7 Q w)

def f58_10 (x1 : Value) (x2 : Value) (x7 : Value) (Q : Value → World → Prop) (w : World) : Prop :=
  kint .i64 .eql x7 (.int .i64 12) fun v17 =>
  kB v17 fun b43 => kIf b43
  (f58_11 x1 x2 Q w)
  (f58_12 x1 x2 x7 Q w)

def f58_7 (x1 : Value) (x2 : Value) (x7 : Value) (Q : Value → World → Prop) (w : World) : Prop :=
  kint .i64 .eql x7 (.int .i64 10) fun v10 =>
  kB v10 fun b44 => kIf b44
  (f58_8 x1 x2 Q w)
  (f58_10 x1 x2 x7 Q w)

def f58_5 (x1 : Value) (x2 : Value) (x7 : Value) (Q : Value → World → Prop) (w : World) : Prop :=
  kint .i64 .eql x7 (.int .i64 9) fun v7 =>
  kB v7 fun b45 => kIf b45
  (f58_6 x1 x2 Q w)
  (f58_7 x1 x2 x7 Q w)

def f58_3 (x1 : Value) (x2 : Value) (x7 : Value) (Q : Value → World → Prop) (w : World) : Prop :=
  kint .i64 .eql x7 (.int .i64 8) fun v5 =>
  kB v5 fun b46 => kIf b46
  (f58_4 x1 x2 Q w)
  (f58_5 x1 x2 x7 Q w)

def f58_2 (x1 : Value) (x2 : Value) (x7 : Value) (Q : Value → World → Prop) (w : World) : Prop :=
  kint .i64 .eql x7 (.int .i64 6) fun v4 =>
  kB v4 fun b47 => kIf b47
  (f58_1 x1 x2 Q w)
  (f58_3 x1 x2 x7 Q w)

def f58 (x0 : Value) (x1 : Value) (x2 : Value) (Q : Value → World → Prop) (w : World) : Prop :=
  kint .i64 .eql x0 (.int .i64 7) fun v1 =>
  kB v1 fun b48 => kIf b48
  (f58_0 x1 x2 Q w)
  (f58_2 x1 x2 x0 Q w)

theorem f58_eq (x0 : Value) (x1 : Value) (x2 : Value) (Q : Value → World → Prop) (w : World) : f58 x0 x1 x2 Q w = fnVC Tryz.prog Tryz.f58 [] (Tryz.f58.body.get rfl) [x0, x1, x2] w Q := by kernel_rfl
theorem f58_ok {x0 : Value} {x1 : Value} {x2 : Value} {Q : Value → World → Prop} {w : World} (h : f58 x0 x1 x2 Q w) : Meets Tryz.prog 58 #[x0, x1, x2] w Q :=
  sound (c := (Tryz.f58.body.get rfl)) [] Tryz.func58 rfl rfl (args := [x0, x1, x2]) rfl (Eq.mp (f58_eq x0 x1 x2 Q w) h)

/-! pasodoble/mill.quotient -/
def f90_0 (x0 : Value) (x1 : Value) (Q : Value → World → Prop) (w : World) : Prop :=
  kint .i64 .quo x0 x1 fun v2 =>
  Q v2 w

def f90 (x0 : Value) (x1 : Value) (Q : Value → World → Prop) (w : World) : Prop :=
  kint .i64 .eql x1 (.int .i64 0) fun v1 =>
  kB v1 fun b3 => kIf b3
  (Q (.int .i64 0) w)
  (f90_0 x0 x1 Q w)

theorem f90_eq (x0 : Value) (x1 : Value) (Q : Value → World → Prop) (w : World) : f90 x0 x1 Q w = fnVC Tryz.prog Tryz.f90 [] (Tryz.f90.body.get rfl) [x0, x1] w Q := by kernel_rfl
theorem f90_ok {x0 : Value} {x1 : Value} {Q : Value → World → Prop} {w : World} (h : f90 x0 x1 Q w) : Meets Tryz.prog 90 #[x0, x1] w Q :=
  sound (c := (Tryz.f90.body.get rfl)) [] Tryz.func90 rfl rfl (args := [x0, x1]) rfl (Eq.mp (f90_eq x0 x1 Q w) h)

end Go.Proofs.YtkkgakhfeldokaaGreatDoor
end
section
namespace Go.Proofs.YtkkgakhfeldokaaGreatDoor
open Go Go.Ev
set_option linter.unusedVariables false
set_option linter.unusedSimpArgs false
set_option maxRecDepth 100000

/-! ### The table of operations -/
def opRows : List (List UInt8 × Int × Int × Int) := [
  ([110, 111, 112], 0, 0, 0),
  ([112, 117, 115, 104], 1, 0, 1),
  ([100, 117, 112], 0, 1, 2),
  ([100, 114, 111, 112], 0, 1, 0),
  ([115, 119, 97, 112], 0, 2, 2),
  ([111, 118, 101, 114], 0, 2, 3),
  ([97, 100, 100], 0, 2, 1),
  ([115, 117, 98], 0, 2, 1),
  ([109, 117, 108], 0, 2, 1),
  ([100, 105, 118], 0, 2, 1),
  ([109, 111, 100], 0, 2, 1),
  ([110, 101, 103], 0, 1, 1),
  ([97, 110, 100], 0, 2, 1),
  ([111, 114], 0, 2, 1),
  ([120, 111, 114], 0, 2, 1),
  ([115, 104, 108], 0, 2, 1),
  ([115, 104, 114], 0, 2, 1),
  ([101, 113], 0, 2, 1),
  ([108, 116], 0, 2, 1),
  ([110, 111, 116], 0, 1, 1),
  ([106, 117, 109, 112], 1, 0, 0),
  ([122, 101, 114, 111], 1, 1, 0),
  ([108, 111, 97, 100], 2, 0, 1),
  ([115, 116, 111, 114, 101], 2, 1, 0),
  ([104, 97, 115], 1, 0, 1),
  ([105, 110, 112, 117, 116], 1, 0, 1),
  ([114, 101, 115], 1, 0, 1),
  ([115, 101, 116, 114, 101, 115], 1, 1, 0),
  ([114, 97, 110, 100], 0, 1, 1),
  ([105, 100], 0, 0, 1),
  ([102, 114, 97, 109, 101], 0, 0, 1),
  ([115, 112, 97, 119, 110], 1, 0, 0),
  ([100, 101, 115, 112, 97, 119, 110], 0, 0, 0),
  ([105, 110, 115, 101, 114, 116], 1, 0, 0),
  ([114, 101, 109, 111, 118, 101], 1, 0, 0),
  ([104, 97, 108, 116], 0, 0, 0)]
abbrev OpRow := List UInt8 × Int × Int × Int
def tx (l : List UInt8) : ByteArray := ⟨l.toArray⟩
def rowC (r : OpRow) : List Value := [.string (tx r.1), .int .i64 r.2.1, .int .i64 r.2.2.1, .int .i64 r.2.2.2]
/-- The table lies where it was laid. -/
def RowsAt (w : World) : Prop := ∃ t f, blk w 18 = some (.cells (opRows.flatMap rowC).toArray t f)
theorem RowsAt.same {w w' : World} (h : RowsAt w) (hm : Same w w') : RowsAt w' := by
  obtain ⟨t, f, hb⟩ := h
  exact ⟨t, f, hm.get hb (fun h => h)⟩
theorem opRows_len : opRows.length = 36 := rfl
theorem codeOf_spec {w : World} (hr : RowsAt w) (n : Nat) (hn : n < 36) : Meets Tryz.prog 52 #[.int .i64 n] w fun v w' => v = .tuple #[.agg (rowC (opRows[n]'hn)).toArray, .bool true] ∧ Same w w' := by
  refine f52_ok ?_
  unfold f52
  refine knew_of fun w2 h2 hs2 hb2 => ?_
  rw [kint_lss, kB_bool]
  refine kIf_of (fun _ => ?_) (fun h => absurd h (by simp))
  rw [kint_geq, decide_eq_false (by omega)]
  unfold f52_0
  rw [kB_bool, kIf_false]
  unfold f52_1
  obtain ⟨t, f, hb⟩ := hr.same h2
  rw [kix_array]
  refine kG_of (by omega) ?_
  rw [add_mk]
  have hlen : (opRows.flatMap rowC).length = 36 * 4 := by
    rw [flat_len rowC 4 (fun _ => rfl) opRows, opRows_len]
  have hfl := flat_get rowC 4 (fun _ => rfl) opRows n hn
  generalize opRows.flatMap rowC = cs at *
  refine kldN_of (cs := rowC (opRows[n]'hn)) hb (by simp [hlen]; omega) (by simpa using hfl) (by omega) ?_
  refine kst_of (vs := rowC (opRows[n]'hn)) hb2 rfl rfl rfl (by simp) (by simp [rowC]) fun w11 h11 hs11 hb11 => ?_
  have hb11 : blk w11 w.heap.size = some (.cells (rowC (opRows[n]'hn)).toArray 125) := hb11
  refine kldN_of (cs := rowC (opRows[n]'hn)) hb11 (by simp [rowC]) rfl (by omega) ?_
  exact ⟨rfl, Mod.after h2 h11 (fun b hb => by omega)⟩
theorem moves_spec {w : World} (hr : RowsAt w) (n : Nat) (hn : n < 36) : Meets Tryz.prog 33 #[.int .i64 n] w fun v w' => v = .tuple #[.int .i64 (opRows[n]'hn).2.2.1, .int .i64 (opRows[n]'hn).2.2.2] ∧ Same w w' := by
  refine f33_ok ?_
  unfold f33
  refine kcall_of (codeOf_spec hr n hn) ?_
  generalize opRows[n]'hn = r
  rintro v w2 ⟨rfl, h2⟩
  refine kext_of (v := .agg (rowC r).toArray) rfl ?_
  refine kext_of (v := .bool true) rfl ?_
  refine knew_of fun w6 h6 hs6 hb6 => ?_
  refine kst_of (vs := rowC r) hb6 rfl rfl rfl (by simp) (by simp [rowC]) fun w7 h7 hs7 hb7 => ?_
  have hb7 : blk w7.drew w2.heap.size = some (.cells (rowC r).toArray 125) := hb7
  have m7 : Same w w7.drew := (h2.trans (Mod.after h6 h7 (fun b hb => by omega))).drew
  generalize w7.drew = wd at *
  refine kfld_of ?_
  refine kld_of (v := .int .i64 r.2.2.1) hb7 rfl ?_
  refine kG_of rfl ?_
  refine kfld_of ?_
  refine kld_of (v := .int .i64 r.2.2.2) hb7 rfl ?_
  refine kG_of rfl ?_
  exact ⟨rfl, m7⟩
theorem name_spec {w : World} (hr : RowsAt w) (n : Nat) (hn : n < 36) : Meets Tryz.prog 51 #[.int .i64 n] w fun v w' => v = .string (tx (opRows[n]'hn).1) ∧ Same w w' := by
  refine f51_ok ?_
  unfold f51
  refine kcall_of (codeOf_spec hr n hn) ?_
  generalize opRows[n]'hn = r
  rintro v w2 ⟨rfl, h2⟩
  refine kext_of (v := .agg (rowC r).toArray) rfl ?_
  refine kext_of (v := .bool true) rfl ?_
  refine knew_of fun w6 h6 hs6 hb6 => ?_
  refine kst_of (vs := rowC r) hb6 rfl rfl rfl (by simp) (by simp [rowC]) fun w7 h7 hs7 hb7 => ?_
  have hb7 : blk w7 w2.heap.size = some (.cells (rowC r).toArray 125) := hb7
  refine kfld_of ?_
  refine kld_of (v := .string (tx r.1)) hb7 rfl ?_
  exact ⟨rfl, h2.trans (Mod.after h6 h7 (fun b hb => by omega))⟩

/-! ### What two numbers come to -/
def calcF (op y x : Int) : Int :=
  if op = 7 then IntKind.i64.wrap (y + IntKind.i64.wrap (0 - x)) else if op = 6 then IntKind.i64.wrap (y + x) else if op = 8 then IntKind.i64.wrap (y * x)
  else if op = 9 then quoF y x else if op = 10 then modF y x else if op = 14 then ixor .i64 y x else if op = 17 then flagF (decide (y = x)) else flagF (decide (y < x))
theorem flag_spec (b : Bool) (w : World) : Meets Tryz.prog 55 #[.bool b] w fun v w' => v = .int .i64 (flagF b) ∧ w' = w := by
  refine f55_ok ?_
  unfold f55
  rw [kB_bool]
  refine kIf_of (fun h => ?_) (fun h => ?_)
  · rw [h]; exact ⟨rfl, rfl⟩
  · unfold f55_0
    rw [h]; exact ⟨rfl, rfl⟩
theorem quotient_spec (y x : Int) (w : World) : Meets Tryz.prog 90 #[.int .i64 y, .int .i64 x] w fun v w' => v = .int .i64 (quoF y x) ∧ w' = w := by
  refine f90_ok ?_
  unfold f90
  rw [kint_eql, kB_bool]
  unfold quoF
  refine kIf_dec (fun h => ?_) (fun h => ?_)
  · rw [if_pos h]; exact ⟨rfl, rfl⟩
  · unfold f90_0
    rw [if_neg h, kint_quo]
    exact kG_of h ⟨rfl, rfl⟩
theorem calc_spec (op y x : Int) (w : World) (ho : op = 6 ∨ op = 7 ∨ op = 8 ∨ op = 9 ∨ op = 10 ∨ op = 14 ∨ op = 17 ∨ op = 18) :
    Meets Tryz.prog 58 #[.int .i64 op, .int .i64 y, .int .i64 x] w fun v w' => v = .int .i64 (calcF op y x) ∧ w' = w := by
  refine f58_ok ?_
  unfold f58
  rw [kint_eql, kB_bool]
  unfold calcF
  refine kIf_dec (fun h => ?_) (fun h7 => ?_)
  · unfold f58_0
    rw [kun_neg]
    unfold f58_1
    rw [kint_add, if_pos h]; exact ⟨rfl, rfl⟩
  rw [if_neg h7]
  unfold f58_2
  rw [kint_eql, kB_bool]
  refine kIf_dec (fun h => ?_) (fun h6 => ?_)
  · unfold f58_1
    rw [kint_add, if_pos h]; exact ⟨rfl, rfl⟩
  rw [if_neg h6]
  unfold f58_3
  rw [kint_eql, kB_bool]
  refine kIf_dec (fun h => ?_) (fun h8 => ?_)
  · unfold f58_4
    rw [kint_mul, if_pos h]; exact ⟨rfl, rfl⟩
  rw [if_neg h8]
  unfold f58_5
  rw [kint_eql, kB_bool]
  refine kIf_dec (fun h => ?_) (fun h9 => ?_)
  · unfold f58_6
    rw [if_pos h]
    refine kcall_of (quotient_spec y x w) ?_
    rintro v w' h; exact h
  rw [if_neg h9]
  unfold f58_7
  rw [kint_eql, kB_bool]
  refine kIf_dec (fun h => ?_) (fun h10 => ?_)
  · unfold f58_8
    rw [if_pos h, kint_eql, kB_bool]
    unfold modF
    refine kIf_dec (fun h0 => ?_) (fun h0 => ?_)
    · rw [if_pos h0]; exact ⟨rfl, rfl⟩
    · unfold f58_9
      rw [if_neg h0]
      refine kcall_of (quotient_spec y x w) ?_
      rintro v w' ⟨rfl, rfl⟩
      rw [kint_mul, kint_sub]; exact ⟨rfl, rfl⟩
  rw [if_neg h10]
  unfold f58_10
  rw [kint_eql, kB_bool]
  refine kIf_dec (fun h => absurd h (by omega)) (fun h12 => ?_)
  unfold f58_12
  rw [kint_eql, kB_bool]
  refine kIf_dec (fun h => absurd h (by omega)) (fun h13 => ?_)
  unfold f58_14
  rw [kint_eql, kB_bool]
  refine kIf_dec (fun h => ?_) (fun h14 => ?_)
  · unfold f58_15
    rw [kint_xor, if_pos h]; exact ⟨rfl, rfl⟩
  rw [if_neg h14]
  unfold f58_16
  rw [kint_eql, kB_bool]
  refine kIf_dec (fun h => absurd h (by omega)) (fun h15 => ?_)
  unfold f58_18
  rw [kint_eql, kB_bool]
  refine kIf_dec (fun h => absurd h (by omega)) (fun h16 => ?_)
  unfold f58_20
  rw [kint_eql, kB_bool]
  refine kIf_dec (fun h => ?_) (fun h17 => ?_)
  · unfold f58_21
    rw [kint_eql, if_pos h]
    refine kcall_of (flag_spec _ w) ?_
    rintro v w' h; exact h
  rw [if_neg h17]
  unfold f58_22
  rw [kint_lss]
  refine kcall_of (flag_spec _ w) ?_
  rintro v w' h; exact h
end Go.Proofs.YtkkgakhfeldokaaGreatDoor
end
section
namespace Go.Proofs.YtkkgakhfeldokaaGreatDoor
open Go Go.Ev
set_option linter.unusedVariables false
set_option linter.unusedSimpArgs false
set_option maxRecDepth 100000

/-! ### The mill, as it lies -/
theorem slInt : isSlT Tryz.prog 56 = true := by kernel_rfl
theorem apInt : appT Tryz.prog 56 1 8 = true := by kernel_rfl
theorem slIns : isSlT Tryz.prog 50 = true := by kernel_rfl
theorem apIns : appT Tryz.prog 50 3 24 = true := by kernel_rfl
theorem ptMill : isPtrT Tryz.prog 40 = true := by kernel_rfl
def nV (n : Int) : Value := .int .i64 n
theorem ones_of {α : Type} (F : α → List Value) (h : ∀ x, oneCells (F x) = true) : ∀ l : List α, oneCells (l.flatMap F) = true
  | [] => rfl
  | x :: r => by
    have ih := ones_of F h r
    have hx := h x
    rw [List.flatMap_cons]
    generalize F x = a at hx
    induction a with
    | nil => exact ih
    | cons v t iht => simp_all [oneCells]
theorem cloneI_spec {w : World} {a : Option Addr} {n c : Nat} {us : List Value} (hs : SlIs w a n 1 us) (h1 : oneCells us = true) (hn : us.length ≤ 1099511627776) :
    Meets Tryz.prog 36 #[.slice a n c] w fun v w' => Own w' v 1 us ∧ Same w w' ∧ (∀ b, vblk v b → w.heap.size ≤ b) := by
  refine f36_ok ?_
  unfold f36
  rw [keq_sl_nil slInt]
  simp -dsimp
  cases a with
  | none =>
    have : n = 0 := by rcases hs.2 with h | ⟨_, _, _, _, _, h, _⟩; exact h; cases h
    subst this
    have : us = [] := by simpa using hs.1
    subst this
    simp -dsimp
    exact ⟨Own.nil _ _, Mod.refl _ _, fun b hb => by obtain ⟨_, _, _, h⟩ := hb; cases h⟩
  | some a =>
    simp -dsimp
    unfold f36_0
    simp -dsimp
    refine ksem_append apInt (by omega) (vs := []) (Own.new (arr := #[]) (n := 0) (by simp) (by simp [maxLen])) (Src.ofSlIs (hk := (slT_of (P := Tryz.prog) (t := 56) (by kernel_rfl)).choose_spec) c (hs.same (same_alloc _ _)) h1) (by simpa using by omega) (by simpa using by omega) ?_
    intro v' w' ho hm hf
    refine ⟨by simpa using ho, Mod.after (same_alloc _ _) hm (fun b hb => by rw [vblk_new hb]; exact Nat.le_refl _), fun b hb => ?_⟩
    rcases hf b hb with h | h
    · rw [vblk_new h]; exact Nat.le_refl _
    · simp at h; omega
/-- A slice, cut at its end. -/
theorem Own.cut {w : World} {a : Option Addr} {n c : Nat} {vs : List Value} (h : Own w (.slice a n c) 1 vs) {k : Nat} (hk : k ≤ n) : Own w (.slice a k c) 1 (vs.take k) := by
  obtain ⟨a', n', c', e, h1, h2, h3, h4⟩ := h
  cases e
  refine ⟨a, k, c, rfl, by rw [List.length_take]; omega, by omega, h3, h4.imp id ?_⟩
  rintro ⟨b, arr, t, ha, hb, hs, ht⟩
  refine ⟨b, arr, t, ha, hb, hs, ?_⟩
  rw [← ht, List.take_take]
  congr 1
  omega
structure IN where
  op : Int
  a : Int
  b : Int
def IN.cells (x : IN) : List Value := [.int .i64 x.op, .int .i64 x.a, .int .i64 x.b]
/-- A mill without a host, under way. -/
def MillAt (w : World) (bM : Nat) (la : Option Addr) (lc : Nat) (l : List IN) (place : Int) (sv : Value) (st : List Int) (fuel : Int) (over : Bool) : Prop :=
  blk w bM = some (.cells #[.pointer none, .pointer none, .int .i64 0, .int .i64 0, .int .i64 0, .slice la l.length lc, .int .i64 place, sv, .int .i64 fuel, .bool over] 88) ∧
  SlIs w la l.length 3 (l.flatMap IN.cells) ∧ Own w sv 1 (st.map nV) ∧ (∀ b o, la = some ⟨b, o, none⟩ → b ≠ bM ∧ ¬ vblk sv b ∧ b < w.heap.size) ∧ ¬ vblk sv bM
theorem MillAt.same {w w' : World} {bM : Nat} {la : Option Addr} {lc : Nat} {l : List IN} {place : Int} {sv : Value} {st : List Int} {fuel : Int} {over : Bool} (h : MillAt w bM la lc l place sv st fuel over) (hm : Same w w') : MillAt w' bM la lc l place sv st fuel over :=
  ⟨hm.get h.1 (fun h => h), h.2.1.same hm, h.2.2.1.same hm, fun b o e => ⟨(h.2.2.2.1 b o e).1, (h.2.2.2.1 b o e).2.1, Nat.lt_of_lt_of_le (h.2.2.2.1 b o e).2.2 hm.size⟩, h.2.2.2.2⟩
theorem over_spec {w : World} {bM : Nat} {la : Option Addr} {lc : Nat} {l : List IN} {place : Int} {sv : Value} {st : List Int} {fuel : Int} {over : Bool} (h : MillAt w bM la lc l place sv st fuel over) :
    Meets Tryz.prog 16 #[.pointer (some ⟨bM, 0, none⟩)] w fun v w' => v = .bool (over || decide (place = l.length)) ∧ Same w w' := by
  have hb := h.1
  refine f16_ok ?_
  unfold f16
  have hm : Same w w.drew := (Mod.refl _ w).drew
  have hb : blk w.drew bM = _ := hb
  generalize w.drew = wd at *
  rw [keq_ptr_nil ptMill]
  refine kG_of rfl ?_
  rw [kB_bool]
  refine kIf_of (fun _ => ?_) (fun h => by cases h)
  rw [kN_ptr]
  refine kfld_of ?_
  refine kld_of (v := .bool over) hb rfl ?_
  refine kG_of rfl ?_
  rw [kB_bool]
  refine kIf_of (fun ho => ?_) (fun ho => ?_)
  · have ho : over = false := by simpa using ho
    rw [kN_ptr]
    refine kfld_of ?_
    refine kld_of (v := .int .i64 place) hb rfl ?_
    refine kG_of rfl ?_
    rw [kN_ptr]
    refine kfld_of ?_
    refine kld_of (v := .slice la l.length lc) hb rfl ?_
    refine kG_of rfl ?_
    rw [klen_slice, kint_eql, ho, Bool.false_or]
    exact ⟨rfl, hm⟩
  · have ho : over = true := by simpa using ho
    rw [ho, Bool.true_or]
    exact ⟨rfl, hm⟩
theorem fuel_spec {w : World} {bM : Nat} {la : Option Addr} {lc : Nat} {l : List IN} {place : Int} {sv : Value} {st : List Int} {fuel : Int} {over : Bool} (h : MillAt w bM la lc l place sv st fuel over) :
    Meets Tryz.prog 15 #[.pointer (some ⟨bM, 0, none⟩)] w fun v w' => v = .int .i64 fuel ∧ w' = w := by
  have hb := h.1
  refine f15_ok ?_
  unfold f15
  rw [keq_ptr_nil ptMill, kB_bool]
  refine kIf_of (fun h => by cases h) (fun _ => ?_)
  unfold f15_0
  rw [kN_ptr]
  refine kfld_of ?_
  refine kld_of (v := .int .i64 fuel) hb rfl ?_
  exact ⟨rfl, rfl⟩
theorem ones_nV (l : List Int) : oneCells (l.map nV) = true := by
  induction l with
  | nil => rfl
  | cons x r ih => simpa [oneCells, nV] using ih
theorem stack_spec {w : World} {bM : Nat} {la : Option Addr} {lc : Nat} {l : List IN} {place : Int} {sv : Value} {st : List Int} {fuel : Int} {over : Bool} (h : MillAt w bM la lc l place sv st fuel over) (hn : st.length ≤ 1099511627776) :
    Meets Tryz.prog 14 #[.pointer (some ⟨bM, 0, none⟩)] w fun v w' => Own w' v 1 (st.map nV) ∧ Same w w' := by
  have hb := h.1
  obtain ⟨a, n, c, rfl, hs, _⟩ := h.2.2.1.is
  refine f14_ok ?_
  unfold f14
  rw [keq_ptr_nil ptMill, kB_bool]
  refine kIf_of (fun h => by cases h) (fun _ => ?_)
  unfold f14_0
  rw [kN_ptr]
  refine kfld_of ?_
  refine kld_of (v := .slice a n c) hb rfl ?_
  refine kcall_of (cloneI_spec hs (ones_nV st) (by simpa using hn)) ?_
  rintro v w' ⟨h1, h2, _⟩
  exact ⟨h1, h2⟩
end Go.Proofs.YtkkgakhfeldokaaGreatDoor
end
section
namespace Go.Proofs.YtkkgakhfeldokaaGreatDoor
open Go Go.Ev
set_option linter.unusedVariables false
set_option linter.unusedSimpArgs false
set_option maxRecDepth 100000

theorem lay_spec {w : World} {bM : Nat} {la : Option Addr} {lc : Nat} {l : List IN} {place : Int} {sv : Value} {st : List Int} {fuel : Int} {over : Bool} (h : MillAt w bM la lc l place sv st fuel over)
    (ns : List Int) (a : Option Addr) (n c : Nat) (hs : SlIs w a n 1 (ns.map nV)) (h1 : st.length ≤ 1099511627776) (h2 : ns.length ≤ 1099511627776) :
    Meets Tryz.prog 54 #[.pointer (some ⟨bM, 0, none⟩), .slice a n c] w fun v w' => ∃ sv', MillAt w' bM la lc l place sv' (st ++ ns) fuel over ∧ Mod (fun k => k = bM ∨ vblk sv k) w w' ∧ (∀ b, vblk sv' b → vblk sv b ∨ w.heap.size ≤ b) := by
  obtain ⟨hb, hl, ho, hla, hsv⟩ := h
  have hbM := lt_of_blk hb
  refine f54_ok ?_
  unfold f54
  rw [kN_ptr]
  refine kfld_of ?_
  refine kld_of (v := sv) hb rfl ?_
  refine ksem_append apInt (by omega) ho (Src.ofSlIs (hk := (slT_of (P := Tryz.prog) (t := 56) (by kernel_rfl)).choose_spec) c hs (ones_nV ns)) (by simp; omega) (by simp; omega) ?_
  intro v' w4 ho4 hm4 hf4
  have hb4 := hm4.get hb hsv
  have hnv : ¬ vblk v' bM := fun e => by
    rcases hf4 _ e with e | e
    · exact hsv e
    · omega
  rw [kN_ptr]
  refine kfld_of ?_
  obtain ⟨a', n', c', e', _⟩ := ho4.is
  subst e'
  refine kst_of (vs := [.slice a' n' c']) hb4 rfl rfl rfl (by simp) (by simp) fun w6 h6 hs6 hb6 => ?_
  have hm6 : Mod (fun k => k = bM ∨ vblk sv k) w w6 := (hm4.mono fun _ _ h => .inr h).trans (h6.mono fun _ _ h => .inl h)
  refine ⟨_, ⟨hb6, hl.mod hm6 ?_, ?_, ?_, hnv⟩, hm6, hf4⟩
  · intro b o e hbad
    obtain ⟨p1, p2, _⟩ := hla b o e
    rcases hbad with hbad | hbad
    · exact p1 hbad
    · exact p2 hbad
  · rw [List.map_append]
    exact ho4.mod h6 fun b hv e => hnv (e ▸ hv)
  · intro b o e
    obtain ⟨p1, p2, p3⟩ := hla b o e
    refine ⟨p1, fun hv => ?_, Nat.lt_of_lt_of_le p3 hm6.size⟩
    rcases hf4 _ hv with hv | hv
    · exact p2 hv
    · omega
theorem take_spec {w : World} {bM : Nat} {la : Option Addr} {lc : Nat} {l : List IN} {place : Int} {sv : Value} {st : List Int} {fuel : Int} {over : Bool} (h : MillAt w bM la lc l place sv st fuel over)
    (k : Nat) (hk : k ≤ st.length) (h1 : st.length ≤ 1099511627776) :
    Meets Tryz.prog 35 #[.pointer (some ⟨bM, 0, none⟩), .int .i64 k] w fun v w' => ∃ sv', Own w' v 1 ((st.drop (st.length - k)).map nV) ∧ MillAt w' bM la lc l place sv' (st.take (st.length - k)) fuel over ∧ Mod (fun k => k = bM) w w' ∧ (∀ b, vblk v b → w.heap.size ≤ b) ∧ (∀ b, vblk sv' b → vblk sv b) := by
  obtain ⟨hb, hl, ho, hla, hsv⟩ := h
  have hbM := lt_of_blk hb
  have ho' := ho
  obtain ⟨a, n, c, rfl, hlen, hnc, hc, hbk⟩ := ho'
  have hn : n = st.length := by simpa using hlen.symm
  subst hn
  refine f35_ok ?_
  unfold f35
  have hwr : IntKind.i64.wrap ((st.length : Int) - (k : Int)) = ((st.length - k : Nat) : Int) := by
    rw [wrap_i64 (by omega) (by omega)]; omega
  rw [kN_ptr]
  refine kfld_of ?_
  refine kld_of (v := .slice a st.length c) hb rfl ?_
  rw [klen_slice, kint_sub, hwr, kN_ptr]
  refine kfld_of ?_
  refine kld_of (v := .slice a st.length c) hb rfl ?_
  rw [ksl_slice rfl rfl]
  refine kG_of (by simp only [loV_int, hiV_none]; omega) ?_
  simp only [loV_int, hiV_none, Int.toNat_natCast, Nat.mul_one]
  have hsl : SlIs w (if c = st.length - k then a else a.map fun x => x.add (st.length - k)) (st.length - (st.length - k)) 1 ((st.drop (st.length - k)).map nV) := by
    refine ⟨by simp, ?_⟩
    by_cases h0 : k = 0
    · left; omega
    · right
      rcases hbk with ⟨_, hc0⟩ | ⟨b, arr, t, rfl, hbb, hsz, htk⟩
      · omega
      · rw [if_neg (by omega)]
        refine ⟨b, st.length - k, arr, t, _, by simp, hbb, ?_⟩
        rw [List.map_drop, ← htk, Nat.mul_one, Nat.mul_one, List.drop_take]
  refine kcall_of (cloneI_spec hsl (ones_nV _) (by simp; omega)) ?_
  rintro v w10 ⟨hov, h10, hf10⟩
  have hb10 := h10.get hb (fun h => h)
  rw [kN_ptr]
  refine kfld_of ?_
  refine kld_of (v := .slice a st.length c) hb10 rfl ?_
  rw [ksl_slice rfl rfl]
  refine kG_of (by simp only [loV_none, hiV_int]; omega) ?_
  have e1 : (if c = (loV none).toNat then a else a.map fun x => x.add ((loV none).toNat * 1)) = a := by
    split
    · rfl
    · rcases hbk with ⟨rfl, _⟩ | ⟨b, arr, t, rfl, _⟩
      · rfl
      · simp
  have e2 : ((hiV st.length (some (Value.int .i64 ((st.length - k : Nat) : Int)))).toNat - (loV none).toNat) = st.length - k := by simp
  have e3 : c - (loV none).toNat = c := by simp
  rw [e1, e2, e3, kN_ptr]
  refine kfld_of ?_
  refine kst_of (vs := [.slice a (st.length - k) c]) hb10 rfl rfl rfl (by simp) (by simp) fun w15 h15 hs15 hb15 => ?_
  have hm15 : Mod (fun k => k = bM) w w15 := (Mod.of_same h10).trans h15
  have hvb : ∀ b, vblk (.slice a (st.length - k) c) b → vblk (.slice a st.length c) b := by
    rintro b ⟨o, n', c', e⟩
    cases e
    exact ⟨_, _, _, rfl⟩
  refine ⟨_, hov.mod h15 (fun b hv e => ?_), ⟨hb15, hl.mod hm15 (fun b o e hbad => (hla b o e).1 hbad), ?_, ?_, fun hv => hsv (hvb _ hv)⟩, hm15, hf10, hvb⟩
  · have := hf10 b hv; omega
  · rw [List.map_take]
    exact (Own.cut ho (by omega)).mod hm15 fun b hv e => hsv (e ▸ hvb _ hv)
  · intro b o e
    obtain ⟨p1, p2, p3⟩ := hla b o e
    exact ⟨p1, fun hv => p2 (hvb _ hv), Nat.lt_of_lt_of_le p3 hm15.size⟩
end Go.Proofs.YtkkgakhfeldokaaGreatDoor
end
section
namespace Go.Proofs.YtkkgakhfeldokaaGreatDoor
open Go Go.Ev
set_option linter.unusedVariables false
set_option linter.unusedSimpArgs false
set_option maxRecDepth 100000

/-! ### What a step does -/
theorem readPush_spec (w : World) (h : Value) (x : IN) (h1 : x.op = 1) : Meets Tryz.prog 53 #[h, .agg x.cells.toArray] w fun v w' => v = .tuple #[.int .i64 x.a, .bool true] ∧ Same w w' := by
  refine f53_ok ?_
  unfold f53
  refine knew_of fun w2 h2 hs2 hb2 => ?_
  have hb2 : blk w2 w.heap.size = some (.cells x.cells.toArray 49) := hb2
  refine kfld_of ?_
  refine kld_of (v := .int .i64 x.op) hb2 rfl ?_
  rw [kint_eql, kB_bool]
  refine kIf_dec (fun _ => ?_) (fun h => absurd h1 h)
  refine kfld_of ?_
  refine kld_of (v := .int .i64 x.a) hb2 rfl ?_
  exact ⟨rfl, h2⟩
/-- The operations that read nothing off the host. -/
def bare (op : Int) : Prop := op ≠ 1 ∧ op ≠ 22 ∧ op ≠ 24 ∧ op ≠ 25 ∧ op ≠ 26 ∧ op ≠ 29 ∧ op ≠ 30
theorem readBare_spec (w : World) (h : Value) (x : IN) (hx : bare x.op) : Meets Tryz.prog 53 #[h, .agg x.cells.toArray] w fun v w' => v = .tuple #[.int .i64 0, .bool false] ∧ Same w w' := by
  obtain ⟨h1, h2, h3, h4, h5, h6, h7⟩ := hx
  refine f53_ok ?_
  unfold f53
  refine knew_of fun w2 hm2 hs2 hb2 => ?_
  have hb2 : blk w2 w.heap.size = some (.cells x.cells.toArray 49) := hb2
  refine kfld_of ?_
  refine kld_of (v := .int .i64 x.op) hb2 rfl ?_
  rw [kint_eql, kB_bool]
  refine kIf_dec (fun h => absurd h h1) (fun _ => ?_)
  rw [kint_eql, kB_bool]
  refine kIf_dec (fun h => absurd h h2) (fun _ => ?_)
  rw [kint_eql, kB_bool]
  refine kIf_dec (fun h => absurd h h3) (fun _ => ?_)
  rw [kint_eql, kB_bool]
  refine kIf_dec (fun h => absurd h h4) (fun _ => ?_)
  rw [kint_eql, kB_bool]
  refine kIf_dec (fun h => absurd h h5) (fun _ => ?_)
  rw [kint_eql, kB_bool]
  refine kIf_dec (fun h => absurd h h6) (fun _ => ?_)
  rw [kint_eql, kB_bool]
  refine kIf_dec (fun h => absurd h h7) (fun _ => ?_)
  unfold f53_2
  exact ⟨rfl, hm2⟩
def DoPost (w : World) (bM : Nat) (la : Option Addr) (lc : Nat) (l : List IN) (place : Int) (sv : Value) (st : List Int) (fuel : Int) (over : Bool) (w' : World) : Prop :=
  ∃ sv', MillAt w' bM la lc l place sv' st fuel over ∧ Mod (fun k => k = bM ∨ vblk sv k) w w' ∧ (∀ b, vblk sv' b → vblk sv b ∨ w.heap.size ≤ b)
theorem doPush_spec {w : World} {bM : Nat} {la : Option Addr} {lc : Nat} {l : List IN} {place : Int} {sv : Value} {st : List Int} {fuel : Int} {over : Bool} (h : MillAt w bM la lc l place sv st fuel over)
    (x : IN) (h1 : x.op = 1) (t : Value) (hn : st.length ≤ 1099511627776) :
    Meets Tryz.prog 34 #[.pointer (some ⟨bM, 0, none⟩), .agg x.cells.toArray, t] w fun v w' => DoPost w bM la lc l place sv (st ++ [x.a]) fuel over w' := by
  refine f34_ok ?_
  unfold f34
  refine knew_of fun w2 h2 hs2 hb2 => ?_
  have hb2 : blk w2.drew w.heap.size = some (.cells x.cells.toArray 49) := hb2
  have m2 : Same w w2.drew := h2.drew
  generalize w2.drew = wd at *
  rw [kN_ptr]
  refine kfld_of ?_
  refine kldN_of (cs := x.cells) hb2 (by simp [IN.cells]) rfl (by omega) ?_
  refine kG_of rfl ?_
  refine kcall_of (readPush_spec wd _ x h1) ?_
  rintro v w6 ⟨rfl, h6⟩
  refine kext_of (v := .int .i64 x.a) rfl ?_
  refine kext_of (v := .bool true) rfl ?_
  rw [kB_bool, kIf_true]
  refine kbldS_of (cs := [nV x.a]) rfl fun w10 h10 hs10 hb10 => ?_
  have m10 := m2.trans (h6.trans h10)
  refine kcall_of (lay_spec (h.same m10) [x.a] _ _ _ (SlIs.blk hb10 rfl) hn (by simp)) ?_
  rintro v w12 ⟨sv', hM, hm, hf⟩
  exact ⟨sv', hM, (Mod.of_same m10).trans hm, fun b hb => (hf b hb).imp id fun h => Nat.le_trans m10.size h⟩
end Go.Proofs.YtkkgakhfeldokaaGreatDoor
end
section
namespace Go.Proofs.YtkkgakhfeldokaaGreatDoor
open Go Go.Ev
set_option linter.unusedVariables false
set_option linter.unusedSimpArgs false
set_option maxRecDepth 100000

/-- The operations of two numbers that are treated here. -/
def two (op : Int) : Prop := op = 6 ∨ op = 7 ∨ op = 8 ∨ op = 9 ∨ op = 10 ∨ op = 14 ∨ op = 17 ∨ op = 18
theorem two_bare {op : Int} (h : two op) : bare op := by unfold two bare at *; omega
theorem doCalc_spec {w : World} {bM : Nat} {la : Option Addr} {lc : Nat} {l : List IN} {place : Int} {sv : Value} {st : List Int} {fuel : Int} {over : Bool} (h : MillAt w bM la lc l place sv st fuel over)
    (o : IN) (ho : two o.op) (y x : Int) (t : Value) (ht : Own w t 1 ([y, x].map nV)) (hn : st.length ≤ 1099511627776) :
    Meets Tryz.prog 34 #[.pointer (some ⟨bM, 0, none⟩), .agg o.cells.toArray, t] w fun v w' => DoPost w bM la lc l place sv (st ++ [calcF o.op y x]) fuel over w' := by
  obtain ⟨a, n, c, rfl, hs, hn2⟩ := ht.is
  have hn2 : n = [y, x].length := by simpa using hn2 rfl
  subst hn2
  refine f34_ok ?_
  unfold f34
  refine knew_of fun w2 h2 hs2 hb2 => ?_
  have hb2 : blk w2.drew w.heap.size = some (.cells o.cells.toArray 49) := hb2
  have m2 : Same w w2.drew := h2.drew
  generalize w2.drew = wd at *
  rw [kN_ptr]
  refine kfld_of ?_
  refine kldN_of (cs := o.cells) hb2 (by simp [IN.cells]) rfl (by omega) ?_
  refine kG_of rfl ?_
  refine kcall_of (readBare_spec wd _ o (two_bare ho)) ?_
  rintro v w6 ⟨rfl, h6⟩
  refine kext_of (v := .int .i64 0) rfl ?_
  refine kext_of (v := .bool false) rfl ?_
  rw [kB_bool, kIf_false]
  have hb6 := h6.get hb2 (fun h => h)
  have m6 := m2.trans h6
  unfold two at ho
  unfold f34_0
  refine kfld_of ?_
  refine kld_of (v := .int .i64 o.op) hb6 rfl ?_
  rw [kint_eql, kB_bool]
  refine kIf_dec (fun h => absurd h (by omega)) (fun _ => ?_)
  unfold f34_2
  rw [kint_eql, kB_bool]
  refine kIf_dec (fun h => absurd h (by omega)) (fun _ => ?_)
  unfold f34_4
  rw [kint_eql, kB_bool]
  refine kIf_dec (fun h => absurd h (by omega)) (fun _ => ?_)
  unfold f34_6
  rw [kint_eql, kB_bool]
  refine kIf_dec (fun h => absurd h (by omega)) (fun _ => ?_)
  unfold f34_8
  rw [kint_eql, kB_bool]
  refine kIf_dec (fun h => absurd h (by omega)) (fun _ => ?_)
  unfold f34_10
  rw [kint_eql, kB_bool]
  refine kIf_dec (fun h => absurd h (by omega)) (fun _ => ?_)
  unfold f34_12
  rw [kint_eql, kB_bool]
  refine kIf_dec (fun h => absurd h (by omega)) (fun _ => ?_)
  rw [kint_eql, decide_eq_false (by omega)]
  unfold f34_13
  rw [kB_bool, kIf_false]
  unfold f34_14
  rw [kint_eql, kB_bool]
  refine kIf_dec (fun h => absurd h (by omega)) (fun _ => ?_)
  unfold f34_16
  rw [kint_eql, kB_bool]
  refine kIf_dec (fun h => absurd h (by omega)) (fun _ => ?_)
  unfold f34_19
  rw [kint_eql, kB_bool]
  refine kIf_dec (fun h => absurd h (by omega)) (fun _ => ?_)
  unfold f34_20
  rw [kint_eql, kB_bool]
  refine kIf_dec (fun h => absurd h (by omega)) (fun _ => ?_)
  rw [kint_eql, decide_eq_false (by omega)]
  unfold f34_21
  rw [kB_bool, kIf_false]
  unfold f34_23
  rw [kint_eql, kB_bool]
  refine kIf_dec (fun h => absurd h (by omega)) (fun _ => ?_)
  rw [kint_eql, kB_bool]
  refine kIf_dec (fun h => absurd h (by omega)) (fun _ => ?_)
  rw [kint_eql, kB_bool]
  refine kIf_dec (fun h => absurd h (by omega)) (fun _ => ?_)
  rw [kint_eql, decide_eq_false (by omega)]
  unfold f34_24
  rw [kB_bool, kIf_false]
  unfold f34_26
  have m6 := m6.drew
  have hb6 : blk w6.drew w.heap.size = some (.cells o.cells.toArray 49) := hb6
  generalize w6.drew = we at *
  refine kfld_of ?_
  refine kld_of (v := .int .i64 o.op) hb6 rfl ?_
  refine kG_of rfl ?_
  refine kixld_of (F := nV) (l := [y, x]) (i := 0) (hs.same m6) (by simp) rfl ?_
  refine kG_of rfl ?_
  refine kixld_of (F := nV) (l := [y, x]) (i := 1) (hs.same m6) (by simp) rfl ?_
  refine kG_of rfl ?_
  refine kcall_of (calc_spec o.op y x we ho) ?_
  rintro v w104 ⟨rfl, rfl⟩
  refine kbldS_of (cs := [nV (calcF o.op y x)]) rfl fun w10 h10 hs10 hb10 => ?_
  have m10 := m6.trans h10
  refine kcall_of (lay_spec (h.same m10) [calcF o.op y x] _ _ _ (SlIs.blk hb10 rfl) hn (by simp)) ?_
  rintro v w12 ⟨sv', hM, hm, hf⟩
  exact ⟨sv', hM, (Mod.of_same m10).trans hm, fun b hb => (hf b hb).imp id fun h => Nat.le_trans m10.size h⟩
end Go.Proofs.YtkkgakhfeldokaaGreatDoor
end
section
namespace Go.Proofs.YtkkgakhfeldokaaGreatDoor
open Go Go.Ev
set_option linter.unusedVariables false
set_option linter.unusedSimpArgs false
set_option maxRecDepth 100000

theorem jumps_spec {w : World} (hr : RowsAt w) (n : Nat) (hn : n < 36) : Meets Tryz.prog 50 #[.int .i64 n] w fun v w' => (∃ j : Bool, v = .tuple #[.bool (decide (n = 20 ∨ n = 21)), .bool j]) ∧ Same w w' := by
  refine f50_ok ?_
  unfold f50
  refine kcall_of (codeOf_spec hr n hn) ?_
  generalize opRows[n]'hn = r
  rintro v w2 ⟨rfl, h2⟩
  refine kext_of (v := .agg (rowC r).toArray) rfl ?_
  refine kext_of (v := .bool true) rfl ?_
  refine knew_of fun w6 h6 hs6 hb6 => ?_
  refine kst_of (vs := rowC r) hb6 rfl rfl rfl (by simp) (by simp [rowC]) fun w7 h7 hs7 hb7 => ?_
  have m7 : Same w w7 := h2.trans (Mod.after h6 h7 (fun b hb => by omega))
  rw [kint_eql, kB_bool]
  refine kIf_dec (fun h => ?_) (fun h35 => ?_)
  · unfold f50_0
    exact ⟨⟨false, by rw [decide_eq_false (by omega)]⟩, m7⟩
  unfold f50_1
  rw [kint_eql, kB_bool]
  refine kIf_dec (fun h => ?_) (fun h20 => ?_)
  · unfold f50_2
    exact ⟨⟨false, by rw [decide_eq_true (by omega)]⟩, m7⟩
  unfold f50_3
  rw [kint_eql, kB_bool]
  refine kIf_dec (fun h => ?_) (fun h21 => ?_)
  · unfold f50_4 f50_5 f50_6
    exact ⟨⟨true, by rw [decide_eq_true (by omega)]⟩, m7⟩
  · unfold f50_5 f50_6
    exact ⟨⟨true, by rw [decide_eq_false (by omega)]⟩, m7⟩
theorem words_ne : ∀ r ∈ opRows, tx r.1 ≠ ⟨#[]⟩ := by
  intro r hr h
  have h : r.1 = [] := by
    have := congrArg (fun s : ByteArray => s.data.toList) h
    simpa [tx] using this
  have hall : opRows.all (fun r => !r.1.isEmpty) = true := by decide
  have := List.all_eq_true.1 hall r hr
  rw [h] at this
  cases this
/-- Nothing is wrong with an instruction that does not jump. -/
theorem checkGood_spec {w : World} (hr : RowsAt w) {bM : Nat} {la : Option Addr} {lc : Nat} {l : List IN} {place : Int} {sv : Value} {st : List Int} {fuel : Int} {over : Bool} (h : MillAt w bM la lc l place sv st fuel over)
    (x : IN) (n : Nat) (hx : x.op = (n : Int)) (hn : n < 36) (hj : ¬ (n = 20 ∨ n = 21)) (hf : fuel ≠ 0) (takes lays : Nat) (ht : (opRows[n]'hn).2.2.1 = takes) (hl : (opRows[n]'hn).2.2.2 = lays) (h1 : takes ≤ st.length) (h2 : st.length - takes + lays ≤ 16) (h3 : st.length ≤ 1099511627776) :
    Meets Tryz.prog 32 #[.pointer (some ⟨bM, 0, none⟩), .agg x.cells.toArray] w fun v w' => v = .nilIface ∧ Same w w' := by
  have hlt := h1
  obtain ⟨hb, hli, ho, hla, hsv⟩ := h
  obtain ⟨a, m, c, rfl, hs, hm2⟩ := ho.is
  have hm2 : m = st.length := by simpa using hm2 rfl
  subst hm2
  refine f32_ok ?_
  unfold f32
  refine knew_of fun w2 hw2 hs2 hb2 => ?_
  have hb2 : blk w2 w.heap.size = some (.cells x.cells.toArray 49) := hb2
  refine kfld_of ?_
  refine kld_of (v := .int .i64 (n : Int)) hb2 (by rw [← hx]; rfl) ?_
  refine kcall_of (moves_spec (hr.same hw2) n hn) ?_
  rw [ht, hl]
  rintro v w6 ⟨rfl, h6⟩
  have hb6 := h6.get hb2 (fun h => h)
  have m6 := hw2.trans h6
  refine kext_of (v := .int .i64 takes) rfl ?_
  refine kext_of (v := .int .i64 lays) rfl ?_
  refine kfld_of ?_
  refine kld_of (v := .int .i64 (n : Int)) hb6 (by rw [← hx]; rfl) ?_
  refine kcall_of (jumps_spec (hr.same m6) n hn) ?_
  rintro v w12 ⟨⟨j, rfl⟩, h12⟩
  have hb12 := h12.get hb6 (fun h => h)
  have m12 := m6.trans h12
  rw [decide_eq_false hj]
  refine kext_of (v := .bool false) rfl ?_
  refine kext_of (v := .bool j) rfl ?_
  rw [kN_ptr]
  refine kfld_of ?_
  refine kld_of (v := .int .i64 fuel) (m12.get hb (fun h => h)) rfl ?_
  rw [kint_eql, kB_bool]
  refine kIf_dec (fun h => absurd h hf) (fun _ => ?_)
  refine kfld_of ?_
  refine kld_of (v := .int .i64 (n : Int)) hb12 (by rw [← hx]; rfl) ?_
  refine kcall_of (name_spec (hr.same m12) n hn) ?_
  rintro v w22 ⟨rfl, h22⟩
  have m22 := m12.trans h22
  have hb22 := m22.get hb (fun h => h)
  rw [kstr_eql, decide_eq_false (words_ne _ (List.getElem_mem hn)), kB_bool, kIf_false, kN_ptr]
  refine kfld_of ?_
  refine kld_of (v := .slice a st.length c) hb22 rfl ?_
  rw [klen_slice, kint_lss, decide_eq_false (by omega), kB_bool, Bool.not_false, kIf_true, kN_ptr]
  refine kfld_of ?_
  refine kld_of (v := .slice a st.length c) hb22 rfl ?_
  rw [klen_slice, kint_sub, wrap_i64 (by omega) (by omega), kint_add, wrap_i64 (by omega) (by omega), kint_gtr, decide_eq_false (by omega)]
  unfold f32_0
  rw [kB_bool, kIf_false, kB_bool, kIf_false]
  unfold f32_1
  rw [kB_bool, kIf_false]
  unfold f32_2
  exact ⟨rfl, m22.drew⟩
end Go.Proofs.YtkkgakhfeldokaaGreatDoor
end
section
namespace Go.Proofs.YtkkgakhfeldokaaGreatDoor
open Go Go.Ev
set_option linter.unusedVariables false
set_option linter.unusedSimpArgs false
set_option maxRecDepth 100000

/-- A step that goes well: what it does is what 'do' does. -/
theorem stepGood_spec {w : World} (hr : RowsAt w) {bM : Nat} {la : Option Addr} {lc : Nat} {l : List IN} {p : Nat} {sv : Value} {st : List Int} {fuel : Int} (h : MillAt w bM la lc l p sv st fuel false) (hrM : bM ≠ 18) 
    (hp : p < l.length) (n : Nat) (hx : (l[p]).op = (n : Int)) (hn : n < 36) (hj : ¬ (n = 20 ∨ n = 21)) (hf : fuel ≠ 0) (hfb : 0 ≤ fuel ∧ fuel ≤ 4096) (hlb : l.length ≤ 1099511627776) (takes lays : Nat) (ht : (opRows[n]'hn).2.2.1 = takes) (hl : (opRows[n]'hn).2.2.2 = lays) (h1 : takes ≤ st.length) (h2 : st.length - takes + lays ≤ 16) (h3 : st.length ≤ 16)
    (place' : Int) (st' : List Int) (over' : Bool)
    (hdo : ∀ (w1 : World) (sv1 t : Value), MillAt w1 bM la lc l (p + 1) sv1 (st.take (st.length - takes)) (fuel - 1) false → Own w1 t 1 ((st.drop (st.length - takes)).map nV) →
      Meets Tryz.prog 34 #[.pointer (some ⟨bM, 0, none⟩), .agg (l[p]).cells.toArray, t] w1 fun v w' => DoPost w1 bM la lc l place' sv1 st' (fuel - 1) over' w') :
    Meets Tryz.prog 11 #[.pointer (some ⟨bM, 0, none⟩)] w fun v w' => v = .tuple #[.bool true, .nilIface] ∧ ∃ sv', MillAt w' bM la lc l place' sv' st' (fuel - 1) over' ∧ Mod (fun k => k = bM ∨ vblk sv k) w w' ∧ (∀ b, vblk sv' b → vblk sv b ∨ w.heap.size ≤ b) := by
  have hbM := lt_of_blk h.1
  refine f11_ok ?_
  unfold f11
  rw [keq_ptr_nil ptMill, kB_bool]
  refine kIf_of (fun h => by cases h) (fun _ => ?_)
  refine kcall_of (over_spec h) ?_
  rintro v w7 ⟨rfl, h7⟩
  rw [Bool.false_or, decide_eq_false (by omega), kB_bool, kIf_false]
  unfold f11_0
  have hM : MillAt w7.drew bM la lc l p sv st fuel false := h.same h7.drew
  have m7 : Same w w7.drew := h7.drew
  generalize w7.drew = wd at *
  obtain ⟨b, o, cs, t, f, rfl, hbl, hle, hc⟩ := hM.2.1.at hp (by omega)
  rw [flat_get IN.cells 3 (fun _ => rfl) l p hp] at hc
  rw [kN_ptr]
  refine kfld_of ?_
  refine kld_of (v := .slice (some ⟨b, o, none⟩) l.length lc) hM.1 rfl ?_
  refine kG_of rfl ?_
  rw [kN_ptr]
  refine kfld_of ?_
  refine kld_of (v := .int .i64 (p : Int)) hM.1 rfl ?_
  refine kG_of rfl ?_
  rw [kix_slice]
  refine kG_of (by omega) ?_
  rw [add_mk, Int.toNat_natCast]
  refine kldN_of (cs := (l[p]).cells) hbl (by omega) hc (by omega) ?_
  refine kG_of rfl ?_
  refine knew_of fun w15 h15 hs15 hb15 => ?_
  have hM15 := hM.same h15
  refine kG_of ?_ ?_
  · refine kldN_of (cs := (l[p]).cells) (h15.get hbl (fun h => h)) (by omega) hc (by omega) ?_
    exact ⟨rfl, rfl⟩
  refine kG_of ?_ ?_
  · refine kld_of (v := .int .i64 (p : Int)) hM15.1 rfl ?_
    exact ⟨rfl, rfl⟩
  refine kG_of ?_ ?_
  · refine kld_of (v := .slice (some ⟨b, o, none⟩) l.length lc) hM15.1 rfl ?_
    exact ⟨rfl, rfl⟩
  refine kst_of (vs := (l[p]).cells) hb15 rfl rfl rfl (by simp) (by simp [IN.cells]) fun w16 h16 hs16 hb16 => ?_
  have hb16 : blk w16 wd.heap.size = some (.cells (l[p]).cells.toArray 49) := hb16
  have h16' : Same wd w16 := Mod.after h15 h16 (fun b hb => by omega)
  have m16 := m7.trans h16'
  have hM16 := hM.same h16'
  have hxlt : bM ≠ wd.heap.size := by have := m7.size; omega
  refine kldN_of (cs := (l[p]).cells) hb16 (by simp [IN.cells]) rfl (by omega) ?_
  refine kcall_of (checkGood_spec (hr.same m16) hM16 (l[p]) n hx hn hj hf takes lays ht hl h1 h2 (by omega)) ?_
  rintro v w19 ⟨rfl, h19⟩
  have hM19 := hM16.same h19
  have hb19 := h19.get hb16 (fun h => h)
  have m19 := m16.trans h19
  rw [keq_nil_nil' ifErr, kB_bool, kIf_false]
  unfold f11_1
  rw [kN_ptr]
  refine kfld_of ?_
  refine kld_of (v := .int .i64 fuel) hM19.1 rfl ?_
  rw [kint_sub, wrap_i64 (by omega) (by omega), kN_ptr]
  refine kfld_of ?_
  refine kst_of (vs := [.int .i64 (fuel - 1)]) hM19.1 rfl rfl rfl (by simp) (by simp) fun w30 h30 hs30 hb30 => ?_
  rw [kN_ptr]
  refine kfld_of ?_
  refine kld_of (v := .int .i64 (p : Int)) hb30 rfl ?_
  rw [kint_add, wrap_i64 (by omega) (by omega), kN_ptr]
  refine kfld_of ?_
  refine kst_of (vs := [.int .i64 ((p : Int) + 1)]) hb30 rfl rfl rfl (by simp) (by simp) fun w35 h35 hs35 hb35 => ?_
  have hm35 : Mod (fun k => k = bM) w19 w35 := h30.trans h35
  have hM35 : MillAt w35 bM (some ⟨b, o, none⟩) lc l ((p : Int) + 1) sv st (fuel - 1) false :=
    ⟨hb35, hM19.2.1.mod hm35 (fun b o e hb => (hM19.2.2.2.1 b o e).1 hb), hM19.2.2.1.mod hm35 (fun b hb e => hM19.2.2.2.2 (e ▸ hb)), fun b o e => ⟨(hM19.2.2.2.1 b o e).1, (hM19.2.2.2.1 b o e).2.1, Nat.lt_of_lt_of_le (hM19.2.2.2.1 b o e).2.2 hm35.size⟩, hM19.2.2.2.2⟩
  have hb35' := hm35.get hb19 (fun e => hxlt e.symm)
  have hr35 : RowsAt w35 := by
    obtain ⟨t, f, hb⟩ := hr.same m19
    exact ⟨t, f, hm35.get hb (fun e => hrM e.symm)⟩
  refine kfld_of ?_
  refine kld_of (v := .int .i64 (n : Int)) hb35' (by rw [← hx]; rfl) ?_
  refine kcall_of (moves_spec hr35 n hn) ?_
  rw [ht, hl]
  rintro v w39 ⟨rfl, h39⟩
  refine kext_of (v := .int .i64 takes) rfl ?_
  refine kext_of (v := .int .i64 lays) rfl ?_
  have h39 := h39.drew
  generalize w39.drew = wk at *
  have hM39 := hM35.same h39
  have hb39 := h39.get hb35' (fun h => h)
  refine kldN_of (cs := (l[p]).cells) hb39 (by simp [IN.cells]) rfl (by omega) ?_
  refine kG_of rfl ?_
  refine kcall_of (take_spec hM39 takes h1 (by omega)) ?_
  rintro v w44 ⟨sv1, hov, hM44, hm44, hf44, hv44⟩
  refine kG_of ?_ ?_
  · refine kldN_of (cs := (l[p]).cells) (hm44.get hb39 (fun e => hxlt e.symm)) (by simp [IN.cells]) rfl (by omega) ?_
    exact ⟨rfl, rfl⟩
  refine kcall_of (hdo w44 sv1 v hM44 hov) ?_
  rintro v w46 ⟨sv', hM46, hm46, hf46⟩
  have hA : Mod (fun k => k = bM ∨ vblk sv k) w w44 := (Mod.of_same m19).trans (((hm35.trans (Mod.of_same h39)).trans hm44).mono fun _ _ h => .inl h)
  refine ⟨rfl, sv', hM46, hA.trans (hm46.mono fun k _ h => h.imp id (hv44 k)), fun b hb => ?_⟩
  rcases hf46 b hb with h | h
  · exact .inl (hv44 b h)
  · exact .inr (Nat.le_trans hA.size h)
end Go.Proofs.YtkkgakhfeldokaaGreatDoor
end
section
namespace Go.Proofs.YtkkgakhfeldokaaGreatDoor
open Go Go.Ev
set_option linter.unusedVariables false
set_option linter.unusedSimpArgs false
set_option maxRecDepth 100000

theorem cloneN_spec {w : World} {a : Option Addr} {n c : Nat} {us : List Value} (hs : SlIs w a n 3 us) (h1 : oneCells us = true) (hn : us.length ≤ 1099511627776) :
    Meets Tryz.prog 30 #[.slice a n c] w fun v w' => Own w' v 3 us ∧ Same w w' ∧ (∀ b, vblk v b → w.heap.size ≤ b) := by
  refine f30_ok ?_
  unfold f30
  rw [keq_sl_nil slIns]
  simp -dsimp
  cases a with
  | none =>
    have : n = 0 := by rcases hs.2 with h | ⟨_, _, _, _, _, h, _⟩; exact h; cases h
    subst this
    have : us = [] := by simpa using hs.1
    subst this
    simp -dsimp
    exact ⟨Own.nil _ _, Mod.refl _ _, fun b hb => by obtain ⟨_, _, _, h⟩ := hb; cases h⟩
  | some a =>
    simp -dsimp
    unfold f30_0
    simp -dsimp
    refine ksem_append apIns (by omega) (vs := []) (Own.new (arr := #[]) (n := 0) (by simp) (by simp [maxLen])) (Src.ofSlIs (hk := (slT_of (P := Tryz.prog) (t := 50) (by kernel_rfl)).choose_spec) c (hs.same (same_alloc _ _)) h1) (by simpa using by omega) (by simpa using by omega) ?_
    intro v' w' ho hm hf
    refine ⟨by simpa using ho, Mod.after (same_alloc _ _) hm (fun b hb => by rw [vblk_new hb]; exact Nat.le_refl _), fun b hb => ?_⟩
    rcases hf b hb with h | h
    · rw [vblk_new h]; exact Nat.le_refl _
    · simp at h; omega
theorem IN_one (l : List IN) : oneCells (l.flatMap IN.cells) = true := ones_of IN.cells (fun _ => rfl) l
theorem new_spec {w : World} (l : List IN) (a : Option Addr) (c : Nat) (hs : SlIs w a l.length 3 (l.flatMap IN.cells)) (hn : l.length ≤ 1000000) (fuel : Int) :
    Meets Tryz.prog 10 #[.agg #[.pointer none, .pointer none, .int .i64 0, .int .i64 0, .int .i64 0], .slice a l.length c, .int .i64 fuel] w fun v w' =>
      ∃ (bM : Nat) (la : Option Addr) (lc : Nat), v = .pointer (some ⟨bM, 0, none⟩) ∧ w.heap.size ≤ bM ∧ Same w w' ∧ MillAt w' bM la lc l 0 (.slice none 0 0) [] (min (max fuel 0) 4096) false := by
  refine f10_ok ?_
  unfold f10
  refine knew_of fun w2 h2 hs2 hb2 => ?_
  have hb2 : blk w2.drew w.heap.size = some (.cells #[.pointer none, .pointer none, .int .i64 0, .int .i64 0, .int .i64 0] 47) := hb2
  have m2 : Same w w2.drew := h2.drew
  generalize w2.drew = wd at *
  refine kldN_of (cs := [.pointer none, .pointer none, .int .i64 0, .int .i64 0, .int .i64 0]) hb2 (by simp) rfl (by omega) ?_
  refine kG_of rfl ?_
  refine kcall_of (cloneN_spec (hs.same m2) (IN_one l) (by rw [flat_len IN.cells 3 (fun _ => rfl)]; omega)) ?_
  rintro v w5 ⟨ho, h5, hf⟩
  refine kG_of ?_ ?_
  · refine kldN_of (cs := [.pointer none, .pointer none, .int .i64 0, .int .i64 0, .int .i64 0]) (h5.get hb2 (fun h => h)) (by simp) rfl (by omega) ?_
    exact ⟨rfl, rfl⟩
  rw [kmm_max, kmm_min]
  obtain ⟨la, n, lc, e, hsl, _⟩ := ho.is
  subst e
  have hlen : n = l.length := by
    have := hsl.1
    rw [flat_len IN.cells 3 (fun _ => rfl)] at this
    omega
  subst hlen
  refine kbld_of (cs := [.pointer none, .pointer none, .int .i64 0, .int .i64 0, .int .i64 0, .slice la l.length lc, .int .i64 0, .slice none 0 0, .int .i64 (min (max fuel 0) 4096), .bool false]) rfl ?_
  refine knew_of fun w12 h12 hs12 hb12 => ?_
  have nv : ∀ b, ¬ vblk (.slice none 0 0) b := by
    rintro b ⟨_, _, _, e⟩; cases e
  refine ⟨w5.heap.size, la, lc, rfl, Nat.le_trans m2.size h5.size, m2.trans (h5.trans h12), hb12, hsl.same h12, Own.nil _ _, fun b o e => ⟨?_, nv b, ?_⟩, nv _⟩
  · have := ho.vblk_lt (b := b) ⟨o, _, _, by rw [e]⟩; omega
  · have := ho.vblk_lt (b := b) ⟨o, _, _, by rw [e]⟩; omega
end Go.Proofs.YtkkgakhfeldokaaGreatDoor
end
section
namespace Go.Proofs.YtkkgakhfeldokaaGreatDoor
open Go Go.Ev
set_option linter.unusedVariables false
set_option linter.unusedSimpArgs false
set_option maxRecDepth 100000

def oneL (op y x : Int) : List IN := [⟨1, y, 0⟩, ⟨1, x, 0⟩, ⟨op, 0, 0⟩]
def oneS (op y x : Int) (i : Nat) : List Int := match i with
  | 0 => []
  | 1 => [y]
  | 2 => [y, x]
  | _ => [calcF op y x]
def OneInv (op y x : Int) (w8 : World) (bM : Nat) (la : Option Addr) (lc : Nat) (v : Value) (wr : World) : Prop :=
  ∃ (i : Nat) (sv : Value), i ≤ 3 ∧ v = .int .i64 i ∧ MillAt wr bM la lc (oneL op y x) i sv (oneS op y x i) (9 - i) false ∧ Mod (fun k => k = bM ∨ w8.heap.size ≤ k) w8 wr ∧ (∀ b, vblk sv b → w8.heap.size ≤ b)
theorem rowOf1 : (opRows[1]'(by decide)).2.2.1 = ((0 : Nat) : Int) ∧ (opRows[1]'(by decide)).2.2.2 = ((1 : Nat) : Int) := ⟨rfl, rfl⟩
theorem rowOfTwo (n : Nat) (hn : n < 36) (h : two n) : (opRows[n]'hn).2.2.1 = ((2 : Nat) : Int) ∧ (opRows[n]'hn).2.2.2 = ((1 : Nat) : Int) := by
  have : n = 6 ∨ n = 7 ∨ n = 8 ∨ n = 9 ∨ n = 10 ∨ n = 14 ∨ n = 17 ∨ n = 18 := by unfold two at h; omega
  rcases this with rfl | rfl | rfl | rfl | rfl | rfl | rfl | rfl <;> exact ⟨rfl, rfl⟩
theorem oneStep {w8 wr : World} {op y x : Int} {bM : Nat} {la : Option Addr} {lc : Nat} (hr : RowsAt wr) (hrM : bM ≠ 18) (n : Nat) (hn : n < 36) (hop : op = (n : Int)) (h2 : two n) (i : Nat) (hi : i < 3) (h : OneInv op y x w8 bM la lc (.int .i64 i) wr) :
    Meets Tryz.prog 11 #[.pointer (some ⟨bM, 0, none⟩)] wr fun v w' => v = .tuple #[.bool true, .nilIface] ∧ OneInv op y x w8 bM la lc (.int .i64 ((i + 1 : Nat) : Int)) w' := by
  obtain ⟨j, sv, hj, e, hM, hm, hv⟩ := h
  have e : i = j := by
    have := congrArg RowKit.intOf e
    have this : (i : Int) = (j : Int) := this
    omega
  subst e
  have fin : ∀ (v : Value) (w' : World), (v = .tuple #[.bool true, .nilIface] ∧ ∃ sv', MillAt w' bM la lc (oneL op y x) ((i : Int) + 1) sv' (oneS op y x (i + 1)) (9 - (i : Int) - 1) false ∧ Mod (fun k => k = bM ∨ vblk sv k) wr w' ∧ (∀ b, vblk sv' b → vblk sv b ∨ wr.heap.size ≤ b)) →
      v = .tuple #[.bool true, .nilIface] ∧ OneInv op y x w8 bM la lc (.int .i64 ((i + 1 : Nat) : Int)) w' := by
    rintro v w' ⟨rfl, sv', hM', hm', hv'⟩
    refine ⟨rfl, i + 1, sv', by omega, rfl, ?_, hm.trans (hm'.mono fun k _ h => h.imp id (hv k)), fun b hb => ?_⟩
    · have e1 : ((i + 1 : Nat) : Int) = (i : Int) + 1 := by omega
      have e2 : (9 : Int) - ((i + 1 : Nat) : Int) = 9 - (i : Int) - 1 := by omega
      rw [e2, e1]; exact hM'
    · rcases hv' b hb with h | h
      · exact hv b h
      · exact Nat.le_trans hm.size h
  have hi3 : i = 0 ∨ i = 1 ∨ i = 2 := by omega
  rcases hi3 with rfl | rfl | rfl
  · exact (stepGood_spec hr hM hrM (by simp [oneL]) 1 rfl (by decide) (by decide) (by decide) (by decide) (by simp [oneL]) 0 1 rowOf1.1 rowOf1.2 (by simp [oneS]) (by simp [oneS]) (by simp [oneS]) _ _ _ (fun w1 sv1 t hM1 _ => doPush_spec hM1 _ rfl t (by simp [oneS]))).mono fun v w' h => fin v w' h
  · exact (stepGood_spec hr hM hrM (by simp [oneL]) 1 rfl (by decide) (by decide) (by decide) (by decide) (by simp [oneL]) 0 1 rowOf1.1 rowOf1.2 (by simp [oneS]) (by simp [oneS]) (by simp [oneS]) _ _ _ (fun w1 sv1 t hM1 _ => doPush_spec hM1 _ rfl t (by simp [oneS]))).mono fun v w' h => fin v w' h
  · exact (stepGood_spec hr hM hrM (by simp [oneL]) n hop hn (by unfold two at h2; omega) (by decide) (by decide) (by simp [oneL]) 2 1 (rowOfTwo n hn h2).1 (rowOfTwo n hn h2).2 (by simp [oneS]) (by simp [oneS]) (by simp [oneS]) _ _ _ (fun w1 sv1 t hM1 ho => doCalc_spec hM1 _ (by rw [show ((oneL op y x)[2]).op = op from rfl, hop]; exact h2) y x t ho (by simp [oneS]))).mono fun v w' h => fin v w' h
end Go.Proofs.YtkkgakhfeldokaaGreatDoor
end
section
namespace Go.Proofs.YtkkgakhfeldokaaGreatDoor
open Go Go.Ev
set_option linter.unusedVariables false
set_option linter.unusedSimpArgs false
set_option maxRecDepth 100000

theorem RowsAt.modNew {w w' : World} {bM : Nat} (h : RowsAt w) (hm : Mod (fun k => k = bM ∨ w.heap.size ≤ k) w w') (hb : bM ≠ 18) : RowsAt w' := by
  obtain ⟨t, f, hbk⟩ := h
  refine ⟨t, f, hm.get hbk ?_⟩
  rintro (e | e)
  · exact hb e.symm
  · have := lt_of_blk hbk; omega
/-- 'one' lays what the operation makes of two numbers. -/
theorem one_spec {w : World} (hr : RowsAt w) (n : Nat) (hn : n < 36) (h2 : two n) (y x : Int) :
    Meets Tryz.prog 6 #[.int .i64 (n : Int), .int .i64 y, .int .i64 x] w fun v w' => v = .tuple #[.int .i64 (calcF n y x), .bool true] ∧ Same w w' := by
  refine f6_ok ?_
  unfold f6
  refine kbld_of (cs := [.pointer none, .pointer none, .int .i64 0, .int .i64 0, .int .i64 0]) rfl ?_
  refine kbld_of (cs := (⟨1, y, 0⟩ : IN).cells) rfl ?_
  refine kbld_of (cs := (⟨1, x, 0⟩ : IN).cells) rfl ?_
  refine kbld_of (cs := (⟨n, 0, 0⟩ : IN).cells) rfl ?_
  refine kbldS_of (cs := (oneL n y x).flatMap IN.cells) rfl fun w6 h6 hs6 hb6 => ?_
  refine kcall_of (new_spec (oneL n y x) _ _ (SlIs.blk hb6 rfl) (by simp [oneL]) 9) ?_
  rintro v w8 ⟨bM, la, lc, rfl, hbM, h8, hM⟩
  have m8 := h6.trans h8
  have hr8 := hr.same m8
  have hrM : bM ≠ 18 := by
    obtain ⟨t, f, hbk⟩ := hr
    have := lt_of_blk hbk
    have := h6.size
    omega
  refine kL_of (OneInv n y x w8 bM la lc) (fun v _ => 3 - (RowKit.intOf v).toNat) ⟨⟨0, _, by omega, rfl, hM, Mod.refl _ _, fun b hb => by obtain ⟨_, _, _, e⟩ := hb; cases e⟩, ?_⟩
  rintro v wr hI
  obtain ⟨i, sv, hi, rfl, hMi, hm, hv⟩ := hI
  unfold f6_0
  rw [kint_lss, kB_bool]
  refine kIf_dec (fun hlt => ?_) (fun hge => ?_)
  · have hlt : i < 3 := by omega
    unfold f6_1
    refine kcall_of (oneStep (hr8.modNew hm hrM) hrM n hn rfl h2 i hlt ⟨i, sv, hi, rfl, hMi, hm, hv⟩) ?_
    rintro v w11 ⟨rfl, hI⟩
    refine kext_of (v := .bool true) rfl ?_
    refine kext_of (v := .nilIface) rfl ?_
    rw [kun_not, kB_bool]
    refine kIf_of (fun _ => ?_) (fun h => by cases h)
    rw [keq_nil_nil' ifErr]
    unfold f6_2
    rw [kB_bool, kIf_false]
    unfold f6_3
    rw [kint_add, i64_succ (by omega)]
    exact ⟨hI, by simp [RowKit.intOf]; omega⟩
  · have : i = 3 := by omega
    subst this
    unfold f6_4
    refine kcall_of (stack_spec hMi (by simp [oneS])) ?_
    rintro v w21 ⟨ho, h21⟩
    obtain ⟨a, m, c, rfl, hs, hm1⟩ := ho.is
    have hm1 : m = [calcF n y x].length := by simpa [oneS] using hm1 rfl
    subst hm1
    rw [klen_slice, kint_sub, show IntKind.i64.wrap (([calcF n y x].length : Int) - 1) = ((0 : Nat) : Int) from by rw [wrap_i64 (by simp) (by simp)]; simp]
    refine kixld_of (F := nV) (l := [calcF n y x]) (i := 0) hs (by simp) rfl ?_
    rw [klen_slice, kint_eql]
    refine ⟨rfl, ?_⟩
    have hsz := m8.size
    exact (m8.trans' (hm.mono fun k _ h => .inr (by rcases h with h | h <;> have := h6.size <;> omega))).trans h21
end Go.Proofs.YtkkgakhfeldokaaGreatDoor
end
section
namespace Go.Proofs.YtkkgakhfeldokaaGreatDoor
open Go Go.Ev
set_option linter.unusedVariables false
set_option linter.unusedSimpArgs false
set_option maxRecDepth 100000

theorem calc6 (y x : Int) : calcF ((6 : Nat) : Int) y x = IntKind.i64.wrap (y + x) := rfl
theorem calc7 (y x : Int) : calcF ((7 : Nat) : Int) y x = IntKind.i64.wrap (y + IntKind.i64.wrap (0 - x)) := rfl
theorem calc8 (y x : Int) : calcF ((8 : Nat) : Int) y x = IntKind.i64.wrap (y * x) := rfl
theorem calc9 (y x : Int) : calcF ((9 : Nat) : Int) y x = quoF y x := rfl
theorem calc10 (y x : Int) : calcF ((10 : Nat) : Int) y x = modF y x := rfl
theorem calc14 (y x : Int) : calcF ((14 : Nat) : Int) y x = ixor .i64 y x := rfl
theorem calc17 (y x : Int) : calcF ((17 : Nat) : Int) y x = flagF (decide (y = x)) := rfl
theorem calc18 (y x : Int) : calcF ((18 : Nat) : Int) y x = flagF (decide (y < x)) := rfl
theorem sums_spec {w0 w : World} (hw : Same w0 w) (hr : RowsAt w) (y x : Int) (hy : Sgn y) (hx : Sgn x) :
    f3_0 (.int .i64 y) (.int .i64 x) (fun v w' => v = .bool true ∧ Same w0 w') w := by
  unfold f3_0
  refine kcall_of (one_spec hr 6 (by decide) (by unfold two; decide) y x) ?_
  rintro v w5 ⟨rfl, h5⟩
  have hr := hr.same h5
  have hw := hw.trans h5
  rw [calc6]
  refine kext_of (v := .int .i64 (IntKind.i64.wrap (y + x))) rfl ?_
  refine kext_of (v := .bool true) rfl ?_
  refine kcall_of (one_spec hr 7 (by decide) (by unfold two; decide) _ x) ?_
  rintro v w9 ⟨rfl, h9⟩
  have hr := hr.same h9
  have hw := hw.trans h9
  rw [calc7, add_sub_law hy hx]
  refine kext_of (v := .int .i64 y) rfl ?_
  refine kext_of (v := .bool true) rfl ?_
  refine kcall_of (one_spec hr 9 (by decide) (by unfold two; decide) y x) ?_
  rintro v w13 ⟨rfl, h13⟩
  have hr := hr.same h13
  have hw := hw.trans h13
  rw [calc9]
  refine kext_of (v := .int .i64 (quoF y x)) rfl ?_
  refine kext_of (v := .bool true) rfl ?_
  refine kcall_of (one_spec hr 10 (by decide) (by unfold two; decide) y x) ?_
  rintro v w17 ⟨rfl, h17⟩
  have hr := hr.same h17
  have hw := hw.trans h17
  rw [calc10]
  refine kext_of (v := .int .i64 (modF y x)) rfl ?_
  refine kext_of (v := .bool true) rfl ?_
  refine kcall_of (one_spec hr 8 (by decide) (by unfold two; decide) (quoF y x) x) ?_
  rintro v w21 ⟨rfl, h21⟩
  have hr := hr.same h21
  have hw := hw.trans h21
  rw [calc8]
  refine kext_of (v := .int .i64 (IntKind.i64.wrap (quoF y x * x))) rfl ?_
  refine kext_of (v := .bool true) rfl ?_
  refine kcall_of (one_spec hr 14 (by decide) (by unfold two; decide) y x) ?_
  rintro v w25 ⟨rfl, h25⟩
  have hr := hr.same h25
  have hw := hw.trans h25
  rw [calc14]
  refine kext_of (v := .int .i64 (ixor .i64 y x)) rfl ?_
  refine kext_of (v := .bool true) rfl ?_
  refine kcall_of (one_spec hr 14 (by decide) (by unfold two; decide) _ x) ?_
  rintro v w29 ⟨rfl, h29⟩
  have hr := hr.same h29
  have hw := hw.trans h29
  rw [calc14, xor_law hy]
  refine kext_of (v := .int .i64 y) rfl ?_
  refine kext_of (v := .bool true) rfl ?_
  refine kcall_of (one_spec hr 18 (by decide) (by unfold two; decide) y x) ?_
  rintro v w33 ⟨rfl, h33⟩
  have hr := hr.same h33
  have hw := hw.trans h33
  rw [calc18]
  refine kext_of (v := .int .i64 (flagF (decide (y < x)))) rfl ?_
  refine kext_of (v := .bool true) rfl ?_
  refine kcall_of (one_spec hr 18 (by decide) (by unfold two; decide) x y) ?_
  rintro v w37 ⟨rfl, h37⟩
  have hr := hr.same h37
  have hw := hw.trans h37
  rw [calc18]
  refine kext_of (v := .int .i64 (flagF (decide (x < y)))) rfl ?_
  refine kext_of (v := .bool true) rfl ?_
  refine kcall_of (one_spec hr 17 (by decide) (by unfold two; decide) y x) ?_
  rintro v w41 ⟨rfl, h41⟩
  have hw := hw.trans h41
  rw [calc17]
  refine kext_of (v := .int .i64 (flagF (decide (y = x)))) rfl ?_
  refine kext_of (v := .bool true) rfl ?_
  rw [kun_not, kB_bool, Bool.not_true, Bool.not_false, kIf_true, kun_not, kB_bool, Bool.not_true, Bool.not_false, kIf_true, kun_not, kB_bool, Bool.not_true, Bool.not_false, kIf_true, kun_not, kB_bool, Bool.not_true, Bool.not_false, kIf_true, kun_not, kB_bool, Bool.not_true, Bool.not_false, kIf_true, kun_not, kB_bool, Bool.not_true, Bool.not_false, kIf_true, kun_not, kB_bool, Bool.not_true, Bool.not_false, kIf_true, kun_not, kB_bool, Bool.not_true, Bool.not_false, kIf_true, kun_not, kB_bool, Bool.not_true, Bool.not_false, kIf_true, kun_not, kB_bool, Bool.not_true, Bool.not_false, kIf_true]
  rw [kint_neq, decide_eq_false (by simp), kB_bool, Bool.not_false, kIf_true, kint_neq, decide_eq_false (by simp), kB_bool, Bool.not_false, kIf_true, kint_add, kint_add, flags_law, kint_neq, decide_eq_false (by simp)]
  unfold f3_1
  rw [kB_bool, kIf_false]
  unfold f3_2
  rw [kint_eql, kB_bool]
  refine kIf_dec (fun h0 => ?_) (fun h0 => ?_)
  · rw [kint_eql, kB_bool]
    have e1 : quoF y x = 0 := by unfold quoF; rw [if_pos h0]
    have e2 : modF y x = 0 := by unfold modF; rw [if_pos h0]
    rw [e1, decide_eq_true rfl, kIf_true, kint_eql, e2]
    exact ⟨rfl, hw⟩
  · unfold f3_3
    rw [kint_add, quo_mod_law hy h0, kint_eql, decide_eq_true rfl, kB_bool, kIf_true, kint_eql, kB_bool]
    refine kIf_of (fun hm => ?_) (fun hm => ⟨rfl, hw⟩)
    have hm : ¬ modF y x = 0 := by simpa using hm
    rw [kint_lss, kint_lss, kbool_eql]
    refine ⟨?_, hw⟩
    have hiff := (mod_sign_law hy hx h0).resolve_left hm
    have : decide (modF y x < 0) = decide (y < 0) := by rw [Bool.eq_iff_iff]; simpa using hiff
    rw [this]; simp
end Go.Proofs.YtkkgakhfeldokaaGreatDoor
end
section
namespace Go.Proofs.YtkkgakhfeldokaaGreatDoor
open Go Go.Ev
set_option linter.unusedVariables false
set_option linter.unusedSimpArgs false
set_option maxRecDepth 100000

theorem doHalt_spec {w : World} {bM : Nat} {la : Option Addr} {lc : Nat} {l : List IN} {place : Int} {sv : Value} {st : List Int} {fuel : Int} {over : Bool} (h : MillAt w bM la lc l place sv st fuel over)
    (o : IN) (ho : o.op = 35) (t : Value) :
    Meets Tryz.prog 34 #[.pointer (some ⟨bM, 0, none⟩), .agg o.cells.toArray, t] w fun v w' => DoPost w bM la lc l place sv st fuel true w' := by
  refine f34_ok ?_
  unfold f34
  refine knew_of fun w2 h2 hs2 hb2 => ?_
  have hb2 : blk w2.drew w.heap.size = some (.cells o.cells.toArray 49) := hb2
  have m2 : Same w w2.drew := h2.drew
  generalize w2.drew = wd at *
  rw [kN_ptr]
  refine kfld_of ?_
  refine kldN_of (cs := o.cells) hb2 (by simp [IN.cells]) rfl (by omega) ?_
  refine kG_of rfl ?_
  refine kcall_of (readBare_spec wd _ o (by unfold bare; omega)) ?_
  rintro v w6 ⟨rfl, h6⟩
  refine kext_of (v := .int .i64 0) rfl ?_
  refine kext_of (v := .bool false) rfl ?_
  rw [kB_bool, kIf_false]
  have hb6 := h6.get hb2 (fun h => h)
  have m6 := m2.trans h6
  have hM := h.same m6
  unfold f34_0
  refine kfld_of ?_
  refine kld_of (v := .int .i64 o.op) hb6 rfl ?_
  rw [kint_eql, kB_bool]
  refine kIf_dec (fun h => absurd h (by omega)) (fun _ => ?_)
  unfold f34_2
  rw [kint_eql, kB_bool]
  refine kIf_dec (fun h => absurd h (by omega)) (fun _ => ?_)
  unfold f34_4
  rw [kint_eql, kB_bool]
  refine kIf_dec (fun h => absurd h (by omega)) (fun _ => ?_)
  unfold f34_6
  rw [kint_eql, kB_bool]
  refine kIf_dec (fun h => absurd h (by omega)) (fun _ => ?_)
  unfold f34_8
  rw [kint_eql, kB_bool]
  refine kIf_dec (fun h => absurd h (by omega)) (fun _ => ?_)
  unfold f34_10
  rw [kint_eql, kB_bool]
  refine kIf_dec (fun h => absurd h (by omega)) (fun _ => ?_)
  unfold f34_12
  rw [kint_eql, kB_bool]
  refine kIf_dec (fun h => absurd h (by omega)) (fun _ => ?_)
  rw [kint_eql, decide_eq_false (by omega)]
  unfold f34_13
  rw [kB_bool, kIf_false]
  unfold f34_14
  rw [kint_eql, kB_bool]
  refine kIf_dec (fun _ => ?_) (fun h => absurd ho h)
  unfold f34_15
  rw [kN_ptr]
  refine kfld_of ?_
  refine kst_of (vs := [.bool true]) hM.1 rfl rfl rfl (by simp) (by simp) fun w7 h7 hs7 hb7 => ?_
  have hm7 : Mod (fun k => k = bM) w w7 := (Mod.of_same m6).trans h7
  exact ⟨sv, ⟨hb7, hM.2.1.mod h7 (fun b o e hb => (hM.2.2.2.1 b o e).1 hb), hM.2.2.1.mod h7 (fun b hb e => hM.2.2.2.2 (e ▸ hb)), fun b o e => ⟨(hM.2.2.2.1 b o e).1, (hM.2.2.2.1 b o e).2.1, Nat.lt_of_lt_of_le (hM.2.2.2.1 b o e).2.2 h7.size⟩, hM.2.2.2.2⟩, hm7.mono fun _ _ h => .inl h, fun b hb => .inl hb⟩
theorem doJump_spec {w : World} {bM : Nat} {la : Option Addr} {lc : Nat} {l : List IN} {place : Int} {sv : Value} {st : List Int} {fuel : Int} {over : Bool} (h : MillAt w bM la lc l place sv st fuel over)
    (o : IN) (ho : o.op = 20) (t : Value) :
    Meets Tryz.prog 34 #[.pointer (some ⟨bM, 0, none⟩), .agg o.cells.toArray, t] w fun v w' => DoPost w bM la lc l o.a sv st fuel over w' := by
  refine f34_ok ?_
  unfold f34
  refine knew_of fun w2 h2 hs2 hb2 => ?_
  have hb2 : blk w2.drew w.heap.size = some (.cells o.cells.toArray 49) := hb2
  have m2 : Same w w2.drew := h2.drew
  generalize w2.drew = wd at *
  rw [kN_ptr]
  refine kfld_of ?_
  refine kldN_of (cs := o.cells) hb2 (by simp [IN.cells]) rfl (by omega) ?_
  refine kG_of rfl ?_
  refine kcall_of (readBare_spec wd _ o (by unfold bare; omega)) ?_
  rintro v w6 ⟨rfl, h6⟩
  refine kext_of (v := .int .i64 0) rfl ?_
  refine kext_of (v := .bool false) rfl ?_
  rw [kB_bool, kIf_false]
  have hb6 := h6.get hb2 (fun h => h)
  have m6 := m2.trans h6
  have hM := h.same m6
  unfold f34_0
  refine kfld_of ?_
  refine kld_of (v := .int .i64 o.op) hb6 rfl ?_
  rw [kint_eql, kB_bool]
  refine kIf_dec (fun h => absurd h (by omega)) (fun _ => ?_)
  unfold f34_2
  rw [kint_eql, kB_bool]
  refine kIf_dec (fun h => absurd h (by omega)) (fun _ => ?_)
  unfold f34_4
  rw [kint_eql, kB_bool]
  refine kIf_dec (fun h => absurd h (by omega)) (fun _ => ?_)
  unfold f34_6
  rw [kint_eql, kB_bool]
  refine kIf_dec (fun h => absurd h (by omega)) (fun _ => ?_)
  unfold f34_8
  rw [kint_eql, kB_bool]
  refine kIf_dec (fun h => absurd h (by omega)) (fun _ => ?_)
  unfold f34_10
  rw [kint_eql, kB_bool]
  refine kIf_dec (fun h => absurd h (by omega)) (fun _ => ?_)
  unfold f34_12
  rw [kint_eql, kB_bool]
  refine kIf_dec (fun h => absurd h (by omega)) (fun _ => ?_)
  rw [kint_eql, decide_eq_false (by omega)]
  unfold f34_13
  rw [kB_bool, kIf_false]
  unfold f34_14
  rw [kint_eql, kB_bool]
  refine kIf_dec (fun h => absurd h (by omega)) (fun _ => ?_)
  unfold f34_16
  rw [kint_eql, kB_bool]
  refine kIf_dec (fun h => absurd h (by omega)) (fun _ => ?_)
  unfold f34_19
  rw [kint_eql, kB_bool]
  refine kIf_dec (fun _ => ?_) (fun h => absurd ho h)
  unfold f34_18
  refine kfld_of ?_
  refine kld_of (v := .int .i64 o.a) hb6 rfl ?_
  rw [kN_ptr]
  refine kfld_of ?_
  refine kst_of (vs := [.int .i64 o.a]) hM.1 rfl rfl rfl (by simp) (by simp) fun w7 h7 hs7 hb7 => ?_
  have hm7 : Mod (fun k => k = bM) w w7 := (Mod.of_same m6).trans h7
  exact ⟨sv, ⟨hb7, hM.2.1.mod h7 (fun b o e hb => (hM.2.2.2.1 b o e).1 hb), hM.2.2.1.mod h7 (fun b hb e => hM.2.2.2.2 (e ▸ hb)), fun b o e => ⟨(hM.2.2.2.1 b o e).1, (hM.2.2.2.1 b o e).2.1, Nat.lt_of_lt_of_le (hM.2.2.2.1 b o e).2.2 h7.size⟩, hM.2.2.2.2⟩, hm7.mono fun _ _ h => .inl h, fun b hb => .inl hb⟩
end Go.Proofs.YtkkgakhfeldokaaGreatDoor
end
section
namespace Go.Proofs.YtkkgakhfeldokaaGreatDoor
open Go Go.Ev
set_option linter.unusedVariables false
set_option linter.unusedSimpArgs false
set_option maxRecDepth 100000

/-! ### Errors of the mill -/
theorem AtV_spec (wh : ByteArray) (t : TypeId) (x : Value) (w : World) : Meets Tryz.prog 25 #[.string wh, .iface t x] w fun v w' =>
    v = .iface 116 (.pointer (some ⟨w.heap.size, 0, none⟩)) ∧ blk w' w.heap.size = some (.cells #[.string wh, .iface t x] 118) ∧ Same w w' := by
  refine f25_ok ?_
  unfold f25
  rw [keq_if_nil ifErr, kB_bool, kIf_false]
  unfold f25_0
  refine kbld_of (cs := [.string wh, .iface t x]) rfl ?_
  refine knew_of fun w2 h2 hs2 hb2 => ?_
  exact ⟨rfl, hb2, h2⟩
theorem wrong_spec (t : TypeId) (x : Value) (w : World) : Meets Tryz.prog 31 #[.iface t x] w fun v w' =>
    v = .iface 116 (.pointer (some ⟨w.heap.size, 0, none⟩)) ∧ (∃ wh, blk w' w.heap.size = some (.cells #[.string wh, .iface t x] 118)) ∧ Same w w' := by
  refine f31_ok ?_
  unfold f31
  refine kcall_of (AtV_spec _ t x w) ?_
  rintro v w' ⟨rfl, h1, h2⟩
  exact ⟨rfl, ⟨_, h1⟩, h2⟩
/-- A sentinel's variable, loaded. -/
theorem kld_err {p : Nat → Prop} {S : Nat → Addr} {w w' : World} (h : LaidP p S w) {k g : Nat} (h1 : p k) (hg : gErr k = g) (hw : w'.heap = w.heap) {K : Value → Prop} (hK : K (errV S k)) : kld (.pointer (some ⟨g, 0, none⟩)) w' K := by
  obtain ⟨c, t, f, hb, hc⟩ := h.glob k h1
  rw [hg] at hb
  exact kld_of (w := w') (by unfold blk at *; rw [hw]; exact hb) hc hK
/-! ### errors.Is of an error that wraps a sentinel -/
theorem taIsB : taB Tryz.prog 116 137 = some false := by kernel_rfl
theorem taUnB : taB Tryz.prog 116 140 = some true := by kernel_rfl
theorem unwrapM (v : Value) (w : World) (K : Value → World → Prop) : kcallM Tryz.prog (.iface 116 v) "Unwrap" [] w K = kcall Tryz.prog 66 #[v] w K := by kernel_rfl
def IsInv (b : Nat) (S : Nat → Addr) (j : Nat) (w : World) (x : Value) (wr : World) : Prop := (x = .iface 116 (.pointer (some ⟨b, 0, none⟩)) ∨ x = errV S j) ∧ wr = w
def isM (x : Value) : Nat := match x with
  | .iface t _ => if t = 116 then 1 else 0
  | _ => 0
theorem isAt_spec {S : Nat → Addr} {w : World} {b : Nat} {wh : ByteArray} (j : Nat) {t : TypeId} (hb : blk w b = some (.cells #[.string wh, errV S j] t)) :
    Meets Tryz.prog 17 #[.iface 116 (.pointer (some ⟨b, 0, none⟩)), errV S j] w fun v w' => v = .bool true ∧ w' = w := by
  refine f17_ok ?_
  unfold f17
  rw [keq_if_nil ifErr, kB_bool, Bool.not_false, kIf_true, errV, keq_if_nil ifErr]
  unfold f17_0
  rw [kB_bool, kIf_false, Is_cmp]
  have hin : Meets Tryz.prog 38 #[.iface 116 (.pointer (some ⟨b, 0, none⟩)), errV S j, .bool true] w fun v w' => v = .bool true ∧ w' = w := by
    refine f38_ok ?_
    unfold f38
    refine kL_of (IsInv b S j w) (fun x _ => isM x) ⟨⟨.inl rfl, rfl⟩, ?_⟩
    rintro x wr ⟨hx, rfl⟩
    unfold f38_0
    rw [kB_bool, kIf_true]
    rcases hx with rfl | rfl
    · rw [errV, keq_if_kind ifErr (by decide)]
      unfold f38_1
      rw [kB_bool, kIf_false]
      unfold f38_2
      rw [ksem_ta_no taIsB zIs]
      refine kext_of (v := .nilIface) rfl ?_
      refine kext_of (v := .bool false) rfl ?_
      rw [kB_bool, kIf_false]
      unfold f38_3
      rw [kB_bool, kIf_false]
      unfold f38_4
      rw [ksem_ta_yes taUnB]
      refine kext_of (v := .bool true) rfl ?_
      refine kext_of (v := .iface 116 (.pointer (some ⟨b, 0, none⟩))) rfl ?_
      rw [kB_bool, kIf_true, unwrapM]
      have hun : Meets Tryz.prog 66 #[.pointer (some ⟨b, 0, none⟩)] wr fun v w' => v = errV S j ∧ w' = wr := by
        refine f66_ok ?_
        unfold f66
        rw [keq_ptr_nil ptBla, kB_bool]
        refine kIf_of (fun h => by cases h) (fun _ => ?_)
        unfold f66_0
        rw [kN_ptr]
        refine kfld_of ?_
        refine kld_of (v := errV S j) hb rfl ?_
        exact ⟨rfl, rfl⟩
      refine kcall_of hun ?_
      rintro v w' ⟨rfl, rfl⟩
      rw [errV, keq_if_nil ifErr, kB_bool, kIf_false]
      exact ⟨⟨.inr rfl, rfl⟩, by simp [isM]⟩
    · rw [errV, keq_if_same ifErr cmpSen]
      unfold f38_1
      rw [kB_bool, kIf_true]
      exact ⟨rfl, rfl⟩
  refine kcall_of hin ?_
  rintro v w' h
  exact h

end Go.Proofs.YtkkgakhfeldokaaGreatDoor
end
section
namespace Go.Proofs.YtkkgakhfeldokaaGreatDoor
open Go Go.Ev
set_option linter.unusedVariables false
set_option linter.unusedSimpArgs false
set_option maxRecDepth 100000

/-- Without fuel. -/
theorem checkFuel_spec {p : Nat → Prop} {S : Nat → Addr} {w : World} (hL : LaidP p S w) {kF : Nat} (k1 : p kF) (hk : gErr kF = 0) (hr : RowsAt w) {bM : Nat} {la : Option Addr} {lc : Nat} {l : List IN} {place : Int} {sv : Value} {st : List Int} {over : Bool} (h : MillAt w bM la lc l place sv st 0 over)
    (x : IN) (n : Nat) (hx : x.op = (n : Int)) (hn : n < 36) :
    Meets Tryz.prog 32 #[.pointer (some ⟨bM, 0, none⟩), .agg x.cells.toArray] w fun v w' => v = errV S kF ∧ Same w w' := by
  obtain ⟨hb, _⟩ := h
  refine f32_ok ?_
  unfold f32
  refine knew_of fun w2 hw2 hs2 hb2 => ?_
  have hb2 : blk w2 w.heap.size = some (.cells x.cells.toArray 49) := hb2
  refine kfld_of ?_
  refine kld_of (v := .int .i64 (n : Int)) hb2 (by rw [← hx]; rfl) ?_
  refine kcall_of (moves_spec (hr.same hw2) n hn) ?_
  generalize opRows[n]'hn = r
  rintro v w6 ⟨rfl, h6⟩
  have hb6 := h6.get hb2 (fun h => h)
  have m6 := hw2.trans h6
  refine kext_of (v := .int .i64 r.2.2.1) rfl ?_
  refine kext_of (v := .int .i64 r.2.2.2) rfl ?_
  refine kfld_of ?_
  refine kld_of (v := .int .i64 (n : Int)) hb6 (by rw [← hx]; rfl) ?_
  refine kcall_of (jumps_spec (hr.same m6) n hn) ?_
  rintro v w12 ⟨⟨j, rfl⟩, h12⟩
  have m12 := m6.trans h12
  refine kext_of (v := .bool (decide (n = 20 ∨ n = 21))) rfl ?_
  refine kext_of (v := .bool j) rfl ?_
  rw [kN_ptr]
  refine kfld_of ?_
  refine kld_of (v := .int .i64 0) (m12.get hb (fun h => h)) rfl ?_
  rw [kint_eql, kB_bool]
  refine kIf_dec (fun _ => ?_) (fun h => absurd rfl h)
  refine kld_err (hL.same m12) k1 hk rfl ?_
  exact ⟨rfl, m12⟩
end Go.Proofs.YtkkgakhfeldokaaGreatDoor
end
section
namespace Go.Proofs.YtkkgakhfeldokaaGreatDoor
open Go Go.Ev
set_option linter.unusedVariables false
set_option linter.unusedSimpArgs false
set_option maxRecDepth 100000

/-- Too little on the stack. -/
theorem checkStack_spec {p : Nat → Prop} {S : Nat → Addr} {w : World} (hL : LaidP p S w) {kF : Nat} (k1 : p kF) (hk : gErr kF = 1) (hr : RowsAt w) {bM : Nat} {la : Option Addr} {lc : Nat} {l : List IN} {place : Int} {sv : Value} {st : List Int} {fuel : Int} {over : Bool} (h : MillAt w bM la lc l place sv st fuel over)
    (x : IN) (n : Nat) (hx : x.op = (n : Int)) (hn : n < 36) (hf : fuel ≠ 0) (takes lays : Nat) (ht : (opRows[n]'hn).2.2.1 = takes) (hl : (opRows[n]'hn).2.2.2 = lays) (h1 : st.length < takes) (h3 : st.length ≤ 1099511627776) :
    Meets Tryz.prog 32 #[.pointer (some ⟨bM, 0, none⟩), .agg x.cells.toArray] w fun v w' => v = errV S kF ∧ Same w w' := by
  have hlt := h1
  obtain ⟨hb, hli, ho, hla, hsv⟩ := h
  obtain ⟨a, m, c, rfl, hs, hm2⟩ := ho.is
  have hm2 : m = st.length := by simpa using hm2 rfl
  subst hm2
  refine f32_ok ?_
  unfold f32
  refine knew_of fun w2 hw2 hs2 hb2 => ?_
  have hb2 : blk w2 w.heap.size = some (.cells x.cells.toArray 49) := hb2
  refine kfld_of ?_
  refine kld_of (v := .int .i64 (n : Int)) hb2 (by rw [← hx]; rfl) ?_
  refine kcall_of (moves_spec (hr.same hw2) n hn) ?_
  rw [ht, hl]
  rintro v w6 ⟨rfl, h6⟩
  have hb6 := h6.get hb2 (fun h => h)
  have m6 := hw2.trans h6
  refine kext_of (v := .int .i64 takes) rfl ?_
  refine kext_of (v := .int .i64 lays) rfl ?_
  refine kfld_of ?_
  refine kld_of (v := .int .i64 (n : Int)) hb6 (by rw [← hx]; rfl) ?_
  refine kcall_of (jumps_spec (hr.same m6) n hn) ?_
  rintro v w12 ⟨⟨j, rfl⟩, h12⟩
  have hb12 := h12.get hb6 (fun h => h)
  have m12 := m6.trans h12
  refine kext_of (v := .bool (decide (n = 20 ∨ n = 21))) rfl ?_
  refine kext_of (v := .bool j) rfl ?_
  rw [kN_ptr]
  refine kfld_of ?_
  refine kld_of (v := .int .i64 fuel) (m12.get hb (fun h => h)) rfl ?_
  rw [kint_eql, kB_bool]
  refine kIf_dec (fun h => absurd h hf) (fun _ => ?_)
  refine kfld_of ?_
  refine kld_of (v := .int .i64 (n : Int)) hb12 (by rw [← hx]; rfl) ?_
  refine kcall_of (name_spec (hr.same m12) n hn) ?_
  rintro v w22 ⟨rfl, h22⟩
  have m22 := m12.trans h22
  have hb22 := m22.get hb (fun h => h)
  rw [kstr_eql, decide_eq_false (words_ne _ (List.getElem_mem hn)), kB_bool, kIf_false, kN_ptr]
  refine kfld_of ?_
  refine kld_of (v := .slice a st.length c) hb22 rfl ?_
  rw [klen_slice, kint_lss, decide_eq_true (by omega), kB_bool, Bool.not_true, kIf_false]
  unfold f32_0
  rw [kB_bool, kIf_true]
  refine kld_err (hL.same m22) k1 hk rfl ?_
  exact ⟨rfl, m22⟩
end Go.Proofs.YtkkgakhfeldokaaGreatDoor
end
section
namespace Go.Proofs.YtkkgakhfeldokaaGreatDoor
open Go Go.Ev
set_option linter.unusedVariables false
set_option linter.unusedSimpArgs false
set_option maxRecDepth 100000

/-- Nothing is wrong with a jump. -/
theorem checkJump_spec {w : World} (hr : RowsAt w) {bM : Nat} {la : Option Addr} {lc : Nat} {l : List IN} {place : Int} {sv : Value} {st : List Int} {fuel : Int} {over : Bool} (h : MillAt w bM la lc l place sv st fuel over)
    (x : IN) (n : Nat) (hx : x.op = (n : Int)) (hn : n < 36) (hj : n = 20 ∨ n = 21) (ha : 0 ≤ x.a ∧ x.a ≤ l.length) (hf : fuel ≠ 0) (takes lays : Nat) (ht : (opRows[n]'hn).2.2.1 = takes) (hl : (opRows[n]'hn).2.2.2 = lays) (h1 : takes ≤ st.length) (h2 : st.length - takes + lays ≤ 16) (h3 : st.length ≤ 1099511627776) :
    Meets Tryz.prog 32 #[.pointer (some ⟨bM, 0, none⟩), .agg x.cells.toArray] w fun v w' => v = .nilIface ∧ Same w w' := by
  have hlt := h1
  obtain ⟨hb, hli, ho, hla, hsv⟩ := h
  obtain ⟨a, m, c, rfl, hs, hm2⟩ := ho.is
  have hm2 : m = st.length := by simpa using hm2 rfl
  subst hm2
  refine f32_ok ?_
  unfold f32
  refine knew_of fun w2 hw2 hs2 hb2 => ?_
  have hb2 : blk w2 w.heap.size = some (.cells x.cells.toArray 49) := hb2
  refine kfld_of ?_
  refine kld_of (v := .int .i64 (n : Int)) hb2 (by rw [← hx]; rfl) ?_
  refine kcall_of (moves_spec (hr.same hw2) n hn) ?_
  rw [ht, hl]
  rintro v w6 ⟨rfl, h6⟩
  have hb6 := h6.get hb2 (fun h => h)
  have m6 := hw2.trans h6
  refine kext_of (v := .int .i64 takes) rfl ?_
  refine kext_of (v := .int .i64 lays) rfl ?_
  refine kfld_of ?_
  refine kld_of (v := .int .i64 (n : Int)) hb6 (by rw [← hx]; rfl) ?_
  refine kcall_of (jumps_spec (hr.same m6) n hn) ?_
  rintro v w12 ⟨⟨j, rfl⟩, h12⟩
  have hb12 := h12.get hb6 (fun h => h)
  have m12 := m6.trans h12
  rw [decide_eq_true hj]
  refine kext_of (v := .bool true) rfl ?_
  refine kext_of (v := .bool j) rfl ?_
  rw [kN_ptr]
  refine kfld_of ?_
  refine kld_of (v := .int .i64 fuel) (m12.get hb (fun h => h)) rfl ?_
  rw [kint_eql, kB_bool]
  refine kIf_dec (fun h => absurd h hf) (fun _ => ?_)
  refine kfld_of ?_
  refine kld_of (v := .int .i64 (n : Int)) hb12 (by rw [← hx]; rfl) ?_
  refine kcall_of (name_spec (hr.same m12) n hn) ?_
  rintro v w22 ⟨rfl, h22⟩
  have m22 := m12.trans h22
  have hbx := h22.get hb12 (fun h => h)
  have hb22 := m22.get hb (fun h => h)
  rw [kstr_eql, decide_eq_false (words_ne _ (List.getElem_mem hn)), kB_bool, kIf_false, kN_ptr]
  refine kfld_of ?_
  refine kld_of (v := .slice a st.length c) hb22 rfl ?_
  rw [klen_slice, kint_lss, decide_eq_false (by omega), kB_bool, Bool.not_false, kIf_true, kN_ptr]
  refine kfld_of ?_
  refine kld_of (v := .slice a st.length c) hb22 rfl ?_
  rw [klen_slice, kint_sub, wrap_i64 (by omega) (by omega), kint_add, wrap_i64 (by omega) (by omega), kint_gtr, decide_eq_false (by omega)]
  unfold f32_0
  rw [kB_bool, kIf_false, kB_bool, kIf_true]
  have m22 := m22.drew
  have hbx : blk w22.drew w.heap.size = _ := hbx
  have hb22 : blk w22.drew bM = _ := hb22
  generalize w22.drew = wd at *
  refine kfld_of ?_
  refine kld_of (v := .int .i64 x.a) hbx rfl ?_
  refine kG_of rfl ?_
  rw [kint_lss, decide_eq_false (by omega), kB_bool, Bool.not_false, kIf_true]
  refine kfld_of ?_
  refine kld_of (v := .int .i64 x.a) hbx rfl ?_
  refine kG_of rfl ?_
  rw [kN_ptr]
  refine kfld_of ?_
  refine kld_of (v := .slice la l.length lc) hb22 rfl ?_
  refine kG_of rfl ?_
  rw [klen_slice, kint_gtr, decide_eq_false (by omega)]
  unfold f32_1
  rw [kB_bool, kIf_false]
  unfold f32_2
  exact ⟨rfl, m22⟩
end Go.Proofs.YtkkgakhfeldokaaGreatDoor
end
section
namespace Go.Proofs.YtkkgakhfeldokaaGreatDoor
open Go Go.Ev
set_option linter.unusedVariables false
set_option linter.unusedSimpArgs false
set_option maxRecDepth 100000

/-- A step that goes well: what it does is what 'do' does. -/
theorem stepAny_spec {w : World} (hr : RowsAt w) {bM : Nat} {la : Option Addr} {lc : Nat} {l : List IN} {p : Nat} {sv : Value} {st : List Int} {fuel : Int} (h : MillAt w bM la lc l p sv st fuel false) (hrM : bM ≠ 18) 
    (hp : p < l.length) (n : Nat) (hx : (l[p]).op = (n : Int)) (hn : n < 36) (hfb : 0 ≤ fuel ∧ fuel ≤ 4096) (hlb : l.length ≤ 1099511627776) (takes lays : Nat) (ht : (opRows[n]'hn).2.2.1 = takes) (hl : (opRows[n]'hn).2.2.2 = lays) (h1 : takes ≤ st.length) (h3 : st.length ≤ 16)
    (hck : ∀ w1 : World, RowsAt w1 → MillAt w1 bM la lc l p sv st fuel false → Meets Tryz.prog 32 #[.pointer (some ⟨bM, 0, none⟩), .agg (l[p]).cells.toArray] w1 fun v w' => v = .nilIface ∧ Same w1 w')
    (place' : Int) (st' : List Int) (over' : Bool)
    (hdo : ∀ (w1 : World) (sv1 t : Value), MillAt w1 bM la lc l (p + 1) sv1 (st.take (st.length - takes)) (fuel - 1) false → Own w1 t 1 ((st.drop (st.length - takes)).map nV) →
      Meets Tryz.prog 34 #[.pointer (some ⟨bM, 0, none⟩), .agg (l[p]).cells.toArray, t] w1 fun v w' => DoPost w1 bM la lc l place' sv1 st' (fuel - 1) over' w') :
    Meets Tryz.prog 11 #[.pointer (some ⟨bM, 0, none⟩)] w fun v w' => v = .tuple #[.bool true, .nilIface] ∧ ∃ sv', MillAt w' bM la lc l place' sv' st' (fuel - 1) over' ∧ Mod (fun k => k = bM ∨ vblk sv k) w w' ∧ (∀ b, vblk sv' b → vblk sv b ∨ w.heap.size ≤ b) := by
  have hbM := lt_of_blk h.1
  refine f11_ok ?_
  unfold f11
  rw [keq_ptr_nil ptMill, kB_bool]
  refine kIf_of (fun h => by cases h) (fun _ => ?_)
  refine kcall_of (over_spec h) ?_
  rintro v w7 ⟨rfl, h7⟩
  rw [Bool.false_or, decide_eq_false (by omega), kB_bool, kIf_false]
  unfold f11_0
  have hM : MillAt w7.drew bM la lc l p sv st fuel false := h.same h7.drew
  have m7 : Same w w7.drew := h7.drew
  generalize w7.drew = wd at *
  obtain ⟨b, o, cs, t, f, rfl, hbl, hle, hc⟩ := hM.2.1.at hp (by omega)
  rw [flat_get IN.cells 3 (fun _ => rfl) l p hp] at hc
  rw [kN_ptr]
  refine kfld_of ?_
  refine kld_of (v := .slice (some ⟨b, o, none⟩) l.length lc) hM.1 rfl ?_
  refine kG_of rfl ?_
  rw [kN_ptr]
  refine kfld_of ?_
  refine kld_of (v := .int .i64 (p : Int)) hM.1 rfl ?_
  refine kG_of rfl ?_
  rw [kix_slice]
  refine kG_of (by omega) ?_
  rw [add_mk, Int.toNat_natCast]
  refine kldN_of (cs := (l[p]).cells) hbl (by omega) hc (by omega) ?_
  refine kG_of rfl ?_
  refine knew_of fun w15 h15 hs15 hb15 => ?_
  have hM15 := hM.same h15
  refine kG_of ?_ ?_
  · refine kldN_of (cs := (l[p]).cells) (h15.get hbl (fun h => h)) (by omega) hc (by omega) ?_
    exact ⟨rfl, rfl⟩
  refine kG_of ?_ ?_
  · refine kld_of (v := .int .i64 (p : Int)) hM15.1 rfl ?_
    exact ⟨rfl, rfl⟩
  refine kG_of ?_ ?_
  · refine kld_of (v := .slice (some ⟨b, o, none⟩) l.length lc) hM15.1 rfl ?_
    exact ⟨rfl, rfl⟩
  refine kst_of (vs := (l[p]).cells) hb15 rfl rfl rfl (by simp) (by simp [IN.cells]) fun w16 h16 hs16 hb16 => ?_
  have hb16 : blk w16 wd.heap.size = some (.cells (l[p]).cells.toArray 49) := hb16
  have h16' : Same wd w16 := Mod.after h15 h16 (fun b hb => by omega)
  have m16 := m7.trans h16'
  have hM16 := hM.same h16'
  have hxlt : bM ≠ wd.heap.size := by have := m7.size; omega
  refine kldN_of (cs := (l[p]).cells) hb16 (by simp [IN.cells]) rfl (by omega) ?_
  refine kcall_of (hck w16 (hr.same m16) hM16) ?_
  rintro v w19 ⟨rfl, h19⟩
  have hM19 := hM16.same h19
  have hb19 := h19.get hb16 (fun h => h)
  have m19 := m16.trans h19
  rw [keq_nil_nil' ifErr, kB_bool, kIf_false]
  unfold f11_1
  rw [kN_ptr]
  refine kfld_of ?_
  refine kld_of (v := .int .i64 fuel) hM19.1 rfl ?_
  rw [kint_sub, wrap_i64 (by omega) (by omega), kN_ptr]
  refine kfld_of ?_
  refine kst_of (vs := [.int .i64 (fuel - 1)]) hM19.1 rfl rfl rfl (by simp) (by simp) fun w30 h30 hs30 hb30 => ?_
  rw [kN_ptr]
  refine kfld_of ?_
  refine kld_of (v := .int .i64 (p : Int)) hb30 rfl ?_
  rw [kint_add, wrap_i64 (by omega) (by omega), kN_ptr]
  refine kfld_of ?_
  refine kst_of (vs := [.int .i64 ((p : Int) + 1)]) hb30 rfl rfl rfl (by simp) (by simp) fun w35 h35 hs35 hb35 => ?_
  have hm35 : Mod (fun k => k = bM) w19 w35 := h30.trans h35
  have hM35 : MillAt w35 bM (some ⟨b, o, none⟩) lc l ((p : Int) + 1) sv st (fuel - 1) false :=
    ⟨hb35, hM19.2.1.mod hm35 (fun b o e hb => (hM19.2.2.2.1 b o e).1 hb), hM19.2.2.1.mod hm35 (fun b hb e => hM19.2.2.2.2 (e ▸ hb)), fun b o e => ⟨(hM19.2.2.2.1 b o e).1, (hM19.2.2.2.1 b o e).2.1, Nat.lt_of_lt_of_le (hM19.2.2.2.1 b o e).2.2 hm35.size⟩, hM19.2.2.2.2⟩
  have hb35' := hm35.get hb19 (fun e => hxlt e.symm)
  have hr35 : RowsAt w35 := by
    obtain ⟨t, f, hb⟩ := hr.same m19
    exact ⟨t, f, hm35.get hb (fun e => hrM e.symm)⟩
  refine kfld_of ?_
  refine kld_of (v := .int .i64 (n : Int)) hb35' (by rw [← hx]; rfl) ?_
  refine kcall_of (moves_spec hr35 n hn) ?_
  rw [ht, hl]
  rintro v w39 ⟨rfl, h39⟩
  refine kext_of (v := .int .i64 takes) rfl ?_
  refine kext_of (v := .int .i64 lays) rfl ?_
  have h39 := h39.drew
  generalize w39.drew = wk at *
  have hM39 := hM35.same h39
  have hb39 := h39.get hb35' (fun h => h)
  refine kldN_of (cs := (l[p]).cells) hb39 (by simp [IN.cells]) rfl (by omega) ?_
  refine kG_of rfl ?_
  refine kcall_of (take_spec hM39 takes h1 (by omega)) ?_
  rintro v w44 ⟨sv1, hov, hM44, hm44, hf44, hv44⟩
  refine kG_of ?_ ?_
  · refine kldN_of (cs := (l[p]).cells) (hm44.get hb39 (fun e => hxlt e.symm)) (by simp [IN.cells]) rfl (by omega) ?_
    exact ⟨rfl, rfl⟩
  refine kcall_of (hdo w44 sv1 v hM44 hov) ?_
  rintro v w46 ⟨sv', hM46, hm46, hf46⟩
  have hA : Mod (fun k => k = bM ∨ vblk sv k) w w44 := (Mod.of_same m19).trans (((hm35.trans (Mod.of_same h39)).trans hm44).mono fun _ _ h => .inl h)
  refine ⟨rfl, sv', hM46, hA.trans (hm46.mono fun k _ h => h.imp id (hv44 k)), fun b hb => ?_⟩
  rcases hf46 b hb with h | h
  · exact .inl (hv44 b h)
  · exact .inr (Nat.le_trans hA.size h)
/-- A step that goes wrong. -/
theorem stepWrong_spec {w : World} (hr : RowsAt w) {bM : Nat} {la : Option Addr} {lc : Nat} {l : List IN} {p : Nat} {sv : Value} {st : List Int} {fuel : Int} (h : MillAt w bM la lc l p sv st fuel false) (hrM : bM ≠ 18) 
    (hp : p < l.length) (hlb : l.length ≤ 1099511627776) (e : Value) (te : TypeId) (xe : Value) (he : e = .iface te xe)
    (hck : ∀ w1 : World, Same w w1 → RowsAt w1 → MillAt w1 bM la lc l p sv st fuel false → Meets Tryz.prog 32 #[.pointer (some ⟨bM, 0, none⟩), .agg (l[p]).cells.toArray] w1 fun v w' => v = e ∧ Same w1 w') :
    Meets Tryz.prog 11 #[.pointer (some ⟨bM, 0, none⟩)] w fun v w' => ∃ bE wh, v = .tuple #[.bool false, .iface 116 (.pointer (some ⟨bE, 0, none⟩))] ∧ w.heap.size ≤ bE ∧ blk w' bE = some (.cells #[.string wh, e] 118) ∧ MillAt w' bM la lc l p sv st fuel true ∧ Mod (fun k => k = bM) w w' := by
  have hbM := lt_of_blk h.1
  refine f11_ok ?_
  unfold f11
  rw [keq_ptr_nil ptMill, kB_bool]
  refine kIf_of (fun h => by cases h) (fun _ => ?_)
  refine kcall_of (over_spec h) ?_
  rintro v w7 ⟨rfl, h7⟩
  rw [Bool.false_or, decide_eq_false (by omega), kB_bool, kIf_false]
  unfold f11_0
  have hM : MillAt w7.drew bM la lc l p sv st fuel false := h.same h7.drew
  have m7 : Same w w7.drew := h7.drew
  generalize w7.drew = wd at *
  obtain ⟨b, o, cs, t, f, rfl, hbl, hle, hc⟩ := hM.2.1.at hp (by omega)
  rw [flat_get IN.cells 3 (fun _ => rfl) l p hp] at hc
  rw [kN_ptr]
  refine kfld_of ?_
  refine kld_of (v := .slice (some ⟨b, o, none⟩) l.length lc) hM.1 rfl ?_
  refine kG_of rfl ?_
  rw [kN_ptr]
  refine kfld_of ?_
  refine kld_of (v := .int .i64 (p : Int)) hM.1 rfl ?_
  refine kG_of rfl ?_
  rw [kix_slice]
  refine kG_of (by omega) ?_
  rw [add_mk, Int.toNat_natCast]
  refine kldN_of (cs := (l[p]).cells) hbl (by omega) hc (by omega) ?_
  refine kG_of rfl ?_
  refine knew_of fun w15 h15 hs15 hb15 => ?_
  have hM15 := hM.same h15
  refine kG_of ?_ ?_
  · refine kldN_of (cs := (l[p]).cells) (h15.get hbl (fun h => h)) (by omega) hc (by omega) ?_
    exact ⟨rfl, rfl⟩
  refine kG_of ?_ ?_
  · refine kld_of (v := .int .i64 (p : Int)) hM15.1 rfl ?_
    exact ⟨rfl, rfl⟩
  refine kG_of ?_ ?_
  · refine kld_of (v := .slice (some ⟨b, o, none⟩) l.length lc) hM15.1 rfl ?_
    exact ⟨rfl, rfl⟩
  refine kst_of (vs := (l[p]).cells) hb15 rfl rfl rfl (by simp) (by simp [IN.cells]) fun w16 h16 hs16 hb16 => ?_
  have hb16 : blk w16 wd.heap.size = some (.cells (l[p]).cells.toArray 49) := hb16
  have h16' : Same wd w16 := Mod.after h15 h16 (fun b hb => by omega)
  have m16 := m7.trans h16'
  have hM16 := hM.same h16'
  have hxlt : bM ≠ wd.heap.size := by have := m7.size; omega
  refine kldN_of (cs := (l[p]).cells) hb16 (by simp [IN.cells]) rfl (by omega) ?_
  refine kcall_of (hck w16 m16 (hr.same m16) hM16) ?_
  rintro v w19 ⟨rfl, h19⟩
  have hM19 := hM16.same h19
  have m19 := m16.trans h19
  rw [he, keq_if_nil' ifErr, kB_bool, kIf_true, kN_ptr]
  refine kfld_of ?_
  refine kst_of (vs := [.bool true]) hM19.1 rfl rfl rfl (by simp) (by simp) fun w23 h23 hs23 hb23 => ?_
  have hM23 : MillAt w23 bM (some ⟨b, o, none⟩) lc l (p : Int) sv st fuel true :=
    ⟨hb23, hM19.2.1.mod h23 (fun b o e hb => (hM19.2.2.2.1 b o e).1 hb), hM19.2.2.1.mod h23 (fun b hb e => hM19.2.2.2.2 (e ▸ hb)), fun b o e => ⟨(hM19.2.2.2.1 b o e).1, (hM19.2.2.2.1 b o e).2.1, Nat.lt_of_lt_of_le (hM19.2.2.2.1 b o e).2.2 h23.size⟩, hM19.2.2.2.2⟩
  refine kcall_of (wrong_spec te xe w23) ?_
  rintro v w25 ⟨rfl, ⟨wh, hbE⟩, h25⟩
  have hm23 : Mod (fun k => k = bM) w w23 := (Mod.of_same m19).trans h23
  exact ⟨_, wh, rfl, hm23.size, hbE, hM23.same h25, hm23.trans (Mod.of_same h25)⟩
end Go.Proofs.YtkkgakhfeldokaaGreatDoor
end
