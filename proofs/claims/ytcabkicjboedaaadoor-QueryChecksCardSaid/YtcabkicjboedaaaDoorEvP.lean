import Derived.Test.YtcabkicjboedaaaDoorEvO
namespace Go.Ev
open Go Go.RowKit
/-! ### New memory, its world a letter -/
theorem knew_of {cs : Array Value} {t : TypeId} {w : World} {K : Value → World → Prop} (h : ∀ w2, Same w w2 → w2.heap.size = w.heap.size + 1 → blk w2 w.heap.size = some (.cells cs t) → K (.pointer (some ⟨w.heap.size, 0, none⟩)) w2) : knew cs t w K :=
  h _ ((Mod.refl _ _).alloc _) (by simp) (alloc_heap_new _ _)
theorem kbldS_of {z : List Value} {n : Nat} {qs : List (Nat × Nat × Value)} {ty : TypeId} {w : World} {K : Value → World → Prop} {cs : List Value} (hf : fillL (zrow z n) qs = some cs)
    (h : ∀ w2, Same w w2 → w2.heap.size = w.heap.size + 1 → blk w2 w.heap.size = some (.cells cs.toArray ty) → K (.slice (some ⟨w.heap.size, 0, none⟩) n n) w2) : kbldS z n qs ty w K := by
  rw [kbldS_eq, hf]
  exact h _ ((Mod.refl _ _).alloc _) (by simp) (alloc_heap_new _ _)
theorem kbld_of {z : List Value} {qs : List (Nat × Nat × Value)} {K : Value → Prop} {cs : List Value} (hf : fillL z qs = some cs) (h : K (.agg cs.toArray)) : kbld z qs K := by
  rw [kbld_eq, hf]
  exact h
theorem SlIs.blk {w : World} {b : Nat} {arr : Array Value} {t : TypeId} {f : Nat × Nat} (hb : blk w b = some (.cells arr t f)) {n sz : Nat} (h : arr.size = n * sz) : SlIs w (some ⟨b, 0, none⟩) n sz arr.toList :=
  ⟨by simpa using h, .inr ⟨_, 0, arr, t, f, rfl, hb, by rw [List.drop_zero, ← h, ← Array.length_toList, List.take_length]⟩⟩
theorem Own.blk {w : World} {b : Nat} {arr : Array Value} {t : TypeId} (hb : blk w b = some (.cells arr t)) {n sz : Nat} (h : arr.size = n * sz) (hn : n ≤ maxLen) : Own w (.slice (some ⟨b, 0, none⟩) n n) sz arr.toList :=
  ⟨_, n, n, rfl, by simpa using h, Nat.le_refl _, hn, .inr ⟨_, arr, t, rfl, hb, h, by rw [← h, ← Array.length_toList, List.take_length]⟩⟩
theorem kfld_of {b o n : Nat} {K : Value → Prop} (h : K (.pointer (some ⟨b, o + n, none⟩))) : kfld n (.pointer (some ⟨b, o, none⟩)) K := by
  rw [kfld_ptr, add_mk]; exact h
theorem kld_of {b o : Nat} {w : World} {K : Value → Prop} {c : Array Value} {t : TypeId} {f : Nat × Nat} {v : Value} (hb : Ev.blk w b = some (.cells c t f)) (hc : c[o]? = some v) (h : K v) : kld (.pointer (some ⟨b, o, none⟩)) w K := by
  rw [kld_ptr, cell_mk, hb, cellO_some, hc]; exact h
theorem kldN_of {n b o : Nat} {w : World} {K : Value → Prop} {c : Array Value} {t : TypeId} {f : Nat × Nat} {cs : List Value} (hb : Ev.blk w b = some (.cells c t f)) (hle : o + n ≤ c.size) (hc : (c.toList.drop o).take n = cs) (hn : 0 < n) (h : K (.agg cs.toArray)) : kldN n (.pointer (some ⟨b, o, none⟩)) w K := by
  rw [kldN_ptr, cellsAt_pos _ _ _ _ hn, hb, cellsO_some hle, hc]; exact h
theorem kst_of {n b o : Nat} {v : Value} {w : World} {K : World → Prop} {c : Array Value} {t : TypeId} {vs : List Value} (hb : Ev.blk w b = some (.cells c t)) (hv : v.cells.toList = vs) (hn : vs.length = n) (h1 : oneCells vs = true) (hle : o + n ≤ c.size) (hne : vs ≠ [])
    (h : ∀ w2, Mod (fun k => k = b) w w2 → w2.heap.size = w.heap.size → Ev.blk w2 b = some (.cells (setAll vs c o) t) → K w2) : kst n (.pointer (some ⟨b, o, none⟩)) v w K := by
  have hst := stores_blk (b := b) (o := o) (t := t) vs 0 w c hb h1 (by simpa [hn] using hle) hne
  have hsz : v.cells.size = n := by rw [← hn, ← hv, Array.length_toList]
  rw [kst_ptr, hv, hst, kO_some]
  refine kG_of hsz (h _ ((Mod.refl _ _).setBlk _ (.inl rfl)) (setBlk_size _ _ _) ?_)
  rw [setBlk_heap, if_pos rfl, hb]; rfl
end Go.Ev
