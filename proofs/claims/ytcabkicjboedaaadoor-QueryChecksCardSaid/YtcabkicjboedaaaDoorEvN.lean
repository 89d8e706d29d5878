import Derived.Test.YtcabkicjboedaaaDoorEvM
import Derived.Deep.AppendSrc
namespace Go.Ev
open Go Go.RowKit

/-! ### Slices that are read, slices that are owned, and 'append' -/
/-- A slice of n elements of sz cells each reads as vs. -/
def SlIs (w : World) (a : Option Addr) (n sz : Nat) (vs : List Value) : Prop :=
  vs.length = n * sz ∧ (n = 0 ∨ ∃ b o c t f, a = some ⟨b, o, none⟩ ∧ blk w b = some (.cells c t f) ∧ (c.toList.drop o).take (n * sz) = vs)
theorem SlIs.mod {fp : Nat → Prop} {w w' : World} {a : Option Addr} {n sz : Nat} {vs : List Value} (h : SlIs w a n sz vs) (hm : Mod fp w w') (hf : ∀ b o, a = some ⟨b, o, none⟩ → ¬ fp b) : SlIs w' a n sz vs := by
  refine ⟨h.1, h.2.imp id ?_⟩
  rintro ⟨b, o, c, t, f, rfl, hb, hc⟩
  exact ⟨b, o, c, t, f, rfl, hm.get hb (hf b o rfl), hc⟩
theorem SlIs.same {w w' : World} {a : Option Addr} {n sz : Nat} {vs : List Value} (h : SlIs w a n sz vs) (hm : Same w w') : SlIs w' a n sz vs := h.mod hm fun _ _ _ h => h
theorem SlIs.at {w : World} {a : Option Addr} {n sz : Nat} {vs : List Value} (h : SlIs w a n sz vs) {i : Nat} (hi : i < n) (hs : 0 < sz) : ∃ b o c t f, a = some ⟨b, o, none⟩ ∧ blk w b = some (.cells c t f) ∧ o + i * sz + sz ≤ c.size ∧ (c.toList.drop (o + i * sz)).take sz = (vs.drop (i * sz)).take sz := by
  rcases h.2 with h0 | ⟨b, o, c, t, f, rfl, hb, hc⟩
  · omega
  · refine ⟨b, o, c, t, f, rfl, hb, ?_, ?_⟩
    · have h1 := h.1
      rw [← hc, List.length_take, List.length_drop, Array.length_toList] at h1
      have h2 : (i + 1) * sz ≤ n * sz := Nat.mul_le_mul_right _ hi
      rw [Nat.add_mul] at h2
      have h3 : sz ≤ n * sz := by omega
      omega
    · rw [← hc, List.drop_take, List.take_take, List.drop_drop]
      have h2 : (i + 1) * sz ≤ n * sz := Nat.mul_le_mul_right _ hi
      rw [Nat.add_mul] at h2
      rw [Nat.min_eq_left (by omega)]
theorem SlIs.at1 {w : World} {a : Option Addr} {n : Nat} {vs : List Value} (h : SlIs w a n 1 vs) {i : Nat} (hi : i < n) (hv : i < vs.length) : ∃ b o c t f, a = some ⟨b, o, none⟩ ∧ blk w b = some (.cells c t f) ∧ c[o + i]? = some vs[i] := by
  obtain ⟨b, o, c, t, f, ha, hb, hle, hc⟩ := h.at hi (by omega)
  refine ⟨b, o, c, t, f, ha, hb, ?_⟩
  simp only [Nat.mul_one] at hc hle
  rw [List.drop_eq_getElem_cons (by simp; omega), List.drop_eq_getElem_cons hv] at hc
  simp only [List.take_succ_cons, List.take_zero, List.cons.injEq, and_true] at hc
  rw [← hc]
  simp [show o + i < c.size by omega]
theorem SlIs.nil (w : World) (sz : Nat) (a : Option Addr) : SlIs w a 0 sz [] := ⟨by simp, .inl rfl⟩
theorem flat_get {α : Type} (f : α → List Value) (sz : Nat) (hf : ∀ x, (f x).length = sz) : ∀ (l : List α) (i : Nat) (h : i < l.length), ((l.flatMap f).drop (i * sz)).take sz = f l[i]
  | x :: l, 0, _ => by simp [List.flatMap_cons, ← hf x]
  | x :: l, i + 1, h => by
    have e : (i + 1) * sz = (f x).length + i * sz := by rw [hf, Nat.add_mul]; omega
    rw [List.flatMap_cons, e, List.drop_length_add_append]
    simpa using flat_get f sz hf l i (by simpa using h)
theorem flat_len {α : Type} (f : α → List Value) (sz : Nat) (hf : ∀ x, (f x).length = sz) : ∀ (l : List α), (l.flatMap f).length = l.length * sz
  | [] => by simp
  | x :: l => by rw [List.flatMap_cons, List.length_append, hf, flat_len f sz hf l, List.length_cons, Nat.add_mul]; omega

/-- The block that a slice leads to. -/
def vblk (v : Value) (b : Nat) : Prop := ∃ o n c, v = .slice (some ⟨b, o, none⟩) n c
/-- A slice that can be appended to: nil, or the head of a row of its own. -/
def Own (w : World) (v : Value) (sz : Nat) (vs : List Value) : Prop :=
  ∃ a n c, v = .slice a n c ∧ vs.length = n * sz ∧ n ≤ c ∧ c ≤ maxLen ∧
    ((a = none ∧ c = 0) ∨ ∃ b arr t, a = some ⟨b, 0, none⟩ ∧ blk w b = some (.cells arr t (0, 0)) ∧ arr.size = c * sz ∧ arr.toList.take (n * sz) = vs)
theorem Own.nil (w : World) (sz : Nat) : Own w (.slice none 0 0) sz [] := ⟨none, 0, 0, rfl, by simp, by omega, by simp [maxLen], .inl ⟨rfl, rfl⟩⟩
theorem Own.mod {fp : Nat → Prop} {w w' : World} {v : Value} {sz : Nat} {vs : List Value} (h : Own w v sz vs) (hm : Mod fp w w') (hf : ∀ b, vblk v b → ¬ fp b) : Own w' v sz vs := by
  obtain ⟨a, n, c, rfl, h1, h2, h3, h4⟩ := h
  refine ⟨a, n, c, rfl, h1, h2, h3, h4.imp id ?_⟩
  rintro ⟨b, arr, t, rfl, hb, h5⟩
  exact ⟨b, arr, t, rfl, hm.get hb (hf b ⟨_, _, _, rfl⟩), h5⟩
theorem Own.same {w w' : World} {v : Value} {sz : Nat} {vs : List Value} (h : Own w v sz vs) (hm : Same w w') : Own w' v sz vs := h.mod hm fun _ _ h => h
theorem Own.is {w : World} {v : Value} {sz : Nat} {vs : List Value} (h : Own w v sz vs) : ∃ a n c, v = .slice a n c ∧ SlIs w a n sz vs ∧ (sz = 1 → n = vs.length) := by
  obtain ⟨a, n, c, rfl, h1, h2, h3, h4⟩ := h
  refine ⟨a, n, c, rfl, ⟨h1, ?_⟩, fun e => by subst e; omega⟩
  rcases h4 with ⟨rfl, h4⟩ | ⟨b, arr, t, rfl, hb, hs, h5⟩
  · left; omega
  · exact .inr ⟨b, 0, arr, t, _, rfl, hb, by simpa using h5⟩
theorem Own.vblk_lt {w : World} {v : Value} {sz : Nat} {vs : List Value} (h : Own w v sz vs) {b : Nat} (hb : vblk v b) : b < w.heap.size := by
  obtain ⟨a, n, c, rfl, h1, h2, h3, h4⟩ := h
  obtain ⟨o, n', c', e⟩ := hb
  cases e
  rcases h4 with ⟨h4, _⟩ | ⟨b', arr, t, e, hb, _⟩
  · cases h4
  · cases e; exact lt_of_blk hb

theorem Src.ofSlIs {P : Program} {w : World} {sz tx e' : Nat} (hk : P.underlying tx = some (.slice e')) {a : Option Addr} {n : Nat} (c : Nat) {vs : List Value} (h : SlIs w a n sz vs) (h1 : oneCells vs = true) : Src P sz tx (.slice a n c) n vs w := by
  have h1' : ∀ u ∈ vs, u.oneCell' = true := by
    clear h
    induction vs with
    | nil => intro u hu; cases hu
    | cons v vs ih =>
      simp only [oneCells, Bool.and_eq_true] at h1
      intro u hu
      rcases List.mem_cons.1 hu with rfl | hu
      · exact h1.1
      · exact ih h1.2 u hu
  rcases h.2 with rfl | ⟨b, o, cs, t, f, rfl, hb, hc⟩
  · have e : vs = [] := by have := h.1; simpa using this
    subst e
    cases a with
    | none => exact Src.ofNil w hk c
    | some a => exact Src.ofSlice w hk a 0 c [] (by simp) (by simp) (by simp)
  · refine Src.ofSlice w hk _ n c vs h.1 ?_ h1'
    intro j u hu
    have : (Addr.add ⟨b, o, none⟩ j) = ⟨b, o + j, none⟩ := add_mk ..
    rw [this, cell_mk, hb, cellO_some]
    rw [← hc] at hu
    have hj : j < n * sz := by
      have := (List.getElem?_eq_some_iff.1 hu).1
      simp only [List.length_take] at this
      omega
    rw [List.getElem?_take_of_lt hj, List.getElem?_drop] at hu
    simpa using hu

theorem setCells_blk {b : Nat} {t : TypeId} {f : Nat × Nat} : ∀ (vs : List Value) (o : Nat) (w : World) (c : Array Value), blk w b = some (.cells c t f) → w.setCells b o vs = World.setBlk w b (.cells (setAll vs c o) t f)
  | [], o, w, c, h => by
    simp only [World.setCells, setAll]
    unfold World.setBlk
    have e : w.heap.setIfInBounds b (.cells c t f) = w.heap := by
      apply Array.ext_getElem?
      intro i
      rw [Array.getElem?_setIfInBounds]
      split
      · rename_i e
        subst e
        have h' : w.heap[b]? = some (.cells c t f) := h
        rw [h']
        split
        · rfl
        · rename_i hh; exact absurd (lt_of_blk h) hh
      · rfl
    rw [e]
  | v :: vs, o, w, c, h => by
    simp only [World.setCells, setAll]
    rw [setCell_blk h]
    rw [setCells_blk vs (o + 1) _ (c.setIfInBounds o v) (by rw [setBlk_heap, if_pos rfl, h]; rfl), setBlk_setBlk]

theorem setAll_list : ∀ (vs : List Value) (c : Array Value) (i : Nat), i + vs.length ≤ c.size → (setAll vs c i).toList = c.toList.take i ++ vs ++ c.toList.drop (i + vs.length)
  | [], c, i, h => by simp [setAll]
  | v :: vs, c, i, h => by
    simp only [List.length_cons] at h
    rw [setAll, setAll_list vs _ (i + 1) (by simp; omega)]
    simp only [Array.toList_setIfInBounds, List.length_cons]
    have hi : i < c.toList.length := by simp; omega
    rw [List.drop_set, if_pos (by omega), List.take_set, List.take_succ_eq_append_getElem hi, List.set_append_right _ _ (by simp; omega)]
    simp [Nat.min_eq_left (show i ≤ c.size by omega)]
    rw [show i + 1 + vs.length = i + (vs.length + 1) by omega]

/-- What 'append' asks of a type: by the kernel. -/
def appT (P : Program) (t sz bytes : Nat) : Bool := match P.underlying t with
  | some (.slice e) => match P.info? e with
    | some i => i.size == sz && i.bytes == bytes && (match i.zero with | some z => z.cells.size == sz | none => false)
    | none => false
  | _ => false
def slT (P : Program) (t : Nat) : Bool := match P.underlying t with
  | some (.slice _) => true
  | _ => false
def strT (P : Program) (t : Nat) : Bool := match P.underlying t with
  | some .string => true
  | _ => false
theorem slT_of {P : Program} {t : Nat} (h : slT P t = true) : ∃ e, P.underlying t = some (.slice e) := by
  unfold slT at h; split at h
  · rename_i e he; exact ⟨e, he⟩
  · cases h
theorem strT_of {P : Program} {t : Nat} (h : strT P t = true) : P.underlying t = some .string := by
  unfold strT at h; split at h
  · rename_i he; exact he
  · cases h

/-- What one appends: cells of a slice, or the bytes of a string. -/
theorem append_run {P : Program} {w : World} {t tx ty sz bytes : Nat} (ht : appT P t sz bytes = true) (hsz : 0 < sz) {v x : Value} {vs news : List Value} {n : Nat}
    (hv : Own w v sz vs) (hs : Src P sz tx x n news w) (hn : vs.length + news.length ≤ 9223372036854775807) (hb : (vs.length + news.length) * bytes ≤ 140737488355328) :
    ∃ v' w', (Builtin.append_ #[t, tx] ty #[v, x]).run P w = .ok v' w' ∧ Own w' v' sz (vs ++ news) ∧ Mod (vblk v) w w' ∧ (∀ b, vblk v' b → vblk v b ∨ w.heap.size ≤ b) := by
  obtain ⟨e, he⟩ := slT_of (P := P) (t := t) (by unfold appT at ht; unfold slT; split at ht <;> simp_all)
  simp only [appT, he] at ht
  split at ht <;> try cases ht
  rename_i i hi
  simp only [Bool.and_eq_true, beq_iff_eq] at ht
  obtain ⟨⟨hsize, hby⟩, hz⟩ := ht
  split at hz <;> try cases hz
  rename_i z hz0
  have hzs : z.cells.size = sz := by simpa using hz
  subst hsize hby
  obtain ⟨a, k, c, rfl, h1, h2, h3, h4⟩ := hv
  have hle : ∀ m : Nat, m ≤ m * i.size := fun m => Nat.le_mul_of_pos_right m hsz
  have hnl := hs.newsLen
  have hk1 := hle k
  have hn1 := hle n
  by_cases hroom : k + n ≤ c
  · rcases h4 with ⟨rfl, hc0⟩ | ⟨b, arr, t', rfl, hb', hsz', h5⟩
    · have hk0 : k = 0 := by omega
      have hn0 : n = 0 := by omega
      subst hk0 hn0 hc0
      have e1 : news = [] := by simpa using hnl
      have e2 : vs = [] := by simpa using h1
      subst e1 e2
      have hc' := hs.cells
      have hl' := hs.len w
      refine ⟨.slice none 0 0, w, ?_, Own.nil _ _, Mod.refl _ _, fun b hb => by obtain ⟨_, _, _, h⟩ := hb; cases h⟩
      rcases hs.kind with ⟨e', hk⟩ | hk <;> simp [Builtin.append_, run_underlying he, run_underlying hk, sizeOf, typeInfo, hi, hl', hc']
    · have hkn : (k + n) * i.size ≤ c * i.size := Nat.mul_le_mul_right _ hroom
      rw [Nat.add_mul] at hkn
      have hr := run_append_room_src (P := P) w t tx ty e i he hi b 0 k c x n news hs hroom
        (fun j hj => by rw [cell_mk, hb', cellO_some]; simp; omega) (fun j hj => by simp [World.frozen?, show w.heap[b]? = _ from hb'])
      refine ⟨_, _, hr, ?_, ?_, ?_⟩
      · rw [setCells_blk news _ w arr hb']
        refine ⟨_, _, _, rfl, by rw [List.length_append, h1, hnl, Nat.add_mul], hroom, h3, .inr ⟨b, _, _, rfl, by rw [setBlk_heap, if_pos rfl, hb']; rfl, by rw [setAll_size]; exact hsz', ?_⟩⟩
        have hlen : (vs ++ news).length = (k + n) * i.size := by rw [List.length_append, h1, hnl, Nat.add_mul]
        rw [setAll_list _ _ _ (by omega)]
        simp only [Nat.zero_add, h5]
        rw [← hlen, List.take_left]
      · rw [setCells_blk news _ w arr hb']
        exact (Mod.refl _ _).setBlk _ (.inl ⟨0, k, c, rfl⟩)
      · rintro b' ⟨o, n', c', e⟩
        cases e
        exact .inl ⟨_, _, _, rfl⟩
  · have hold : (Builtin.firstCells i.size k (.slice a k c)).run P w.drew = .ok vs.toArray w.drew := by
      rcases h4 with ⟨rfl, hc0⟩ | ⟨b, arr, t', rfl, hb', hsz', h5⟩
      · have hk0 : k = 0 := by omega
        subst hk0
        have e2 : vs = [] := by simpa using h1
        subst e2
        exact run_firstCells_none (P := P) w.drew i.size 0 0 c
      · refine run_firstCells_some (P := P) w.drew i.size k _ k c vs h1 ?_
        intro j u hu
        rw [show (Addr.add ⟨b, 0, none⟩ j) = ⟨b, 0 + j, none⟩ from add_mk .., cell_mk, drew_blk, hb', cellO_some]
        rw [← h5] at hu
        have hj : j < k * i.size := by
          have := (List.getElem?_eq_some_iff.1 hu).1
          simp only [List.length_take] at this
          omega
        rw [List.getElem?_take_of_lt hj] at hu
        simpa using hu
    have hnb : (k + n) * i.bytes ≤ 140737488355328 := Nat.le_trans (Nat.mul_le_mul_right _ (by omega)) hb
    have hmax : k + n ≤ maxLen := by simp only [maxLen]; omega
    have hr := run_append_grow_src (P := P) w t tx ty e i z he hi hz0 a k c vs hold x n news hs (by omega) (by omega) (growslice_fits (by omega) hnb)
    have hge := grownCap_ge w (k + n) c e
    have hcm := grownCap_le_maxLen w (k + n) c e hmax
    have hlen : (vs ++ news).length = (k + n) * i.size := by rw [List.length_append, h1, hnl, Nat.add_mul]
    refine ⟨_, _, hr, ⟨_, _, _, rfl, hlen, hge, hcm, .inr ⟨w.heap.size, _, _, rfl, alloc_heap_new w.drew _, ?_, ?_⟩⟩, ((Mod.refl _ _).drew).alloc _, ?_⟩
    · rw [Array.size_append, size_zeroCells, List.size_toArray, hlen, hzs, ← Nat.add_mul]
      congr 1; omega
    · simp only [Array.toList_append]
      rw [← hlen]
      exact List.take_left
    · rintro b' ⟨o, n', c', e⟩
      cases e
      exact .inr (Nat.le_refl _)

theorem ksem_append {P : Program} {w : World} {t tx ty sz bytes : Nat} {K : Value → World → Prop} (ht : appT P t sz bytes = true) (hsz : 0 < sz) {v x : Value} {vs news : List Value} {n : Nat}
    (hv : Own w v sz vs) (hs : Src P sz tx x n news w) (hn : vs.length + news.length ≤ 9223372036854775807) (hb : (vs.length + news.length) * bytes ≤ 140737488355328)
    (h : ∀ v' w', Own w' v' sz (vs ++ news) → Mod (vblk v) w w' → (∀ b, vblk v' b → vblk v b ∨ w.heap.size ≤ b) → K v' w') : ksem P (Builtin.append_ #[t, tx] ty #[v, x]) w K := by
  obtain ⟨v', w', hr, h1, h2, h3⟩ := append_run (ty := ty) ht hsz hv hs hn hb
  rw [ksem_ok hr]
  exact h v' w' h1 h2 h3

/-- A row that is new: '[]T{..}'. -/
theorem Own.new {w : World} {t : TypeId} {arr : Array Value} {n sz : Nat} (h : arr.size = n * sz) (hn : n ≤ maxLen) : Own (w.alloc (.cells arr t)) (.slice (some ⟨w.heap.size, 0, none⟩) n n) sz arr.toList :=
  ⟨_, n, n, rfl, by simpa using h, Nat.le_refl _, hn, .inr ⟨_, arr, t, rfl, alloc_heap_new _ _, h, by rw [← h, ← Array.length_toList, List.take_length]⟩⟩
end Go.Ev
