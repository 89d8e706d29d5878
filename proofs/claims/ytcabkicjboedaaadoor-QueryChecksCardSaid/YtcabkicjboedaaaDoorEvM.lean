import Derived.Test.YtcabkicjboedaaaDoorEvL
namespace Go.Ev
open Go Go.RowKit
/-! ### Memory, block by block -/
def blk (w : World) (b : Nat) : Option Obj := w.heap[b]?
def cellO : Option Obj → Nat → Option Value
  | some (.cells c _ _), i => c[i]?
  | _, _ => none
@[simp] theorem cell_mk (w : World) (b i : Nat) : w.cell? ⟨b, i, none⟩ = cellO (blk w b) i := by
  unfold World.cell? cellO blk
  split <;> simp_all
@[simp] theorem cellO_some {c : Array Value} {t : TypeId} {f : Nat × Nat} {i : Nat} : cellO (some (.cells c t f)) i = c[i]? := rfl
def cellsO (o : Option Obj) (i n : Nat) : Option (List Value) := match o with
  | some (.cells c _ _) => if i + n ≤ c.size then some ((c.toList.drop i).take n) else none
  | _ => none
theorem cellsAt_mk (w : World) (b o : Nat) : ∀ (n i : Nat), (n = 0 → ∃ c t f, blk w b = some (.cells c t f) ∧ o + i ≤ c.size) → cellsAt w ⟨b, o, none⟩ i n = cellsO (blk w b) (o + i) n := by
  intro n
  induction n with
  | zero =>
    intro i h
    obtain ⟨c, t, f, hb, hle⟩ := h rfl
    simp [cellsAt, cellsO, hb, hle]
  | succ n ih =>
    intro i _
    simp only [cellsAt, add_mk, cell_mk]
    cases hb : blk w b with
    | none => simp [cellO, cellsO]
    | some ob =>
      cases ob <;> simp only [cellO, cellsO]
      rename_i c t f
      by_cases hlt : o + i < c.size
      · have e1 : c[o + i]? = some c[o + i] := by simp [hlt]
        rw [e1]
        simp only []
        rw [ih (i + 1) (fun _ => ⟨c, t, f, hb, by omega⟩), hb]
        simp only [cellsO]
        by_cases h2 : o + (i + 1) + n ≤ c.size
        · rw [if_pos h2, if_pos (show o + i + (n + 1) ≤ c.size by omega)]
          simp only [Option.some.injEq]
          have hd : c.toList.drop (o + i) = c[o + i] :: c.toList.drop (o + (i + 1)) := by
            rw [List.drop_eq_getElem_cons (by simpa using hlt)]; rfl
          rw [hd]; simp
        · rw [if_neg h2, if_neg (show ¬ o + i + (n + 1) ≤ c.size by omega)]
      · have e1 : c[o + i]? = none := by simp; omega
        rw [e1, if_neg (by omega)]
@[simp] theorem cellsAt_pos (w : World) (b o n : Nat) (h : 0 < n) : cellsAt w ⟨b, o, none⟩ 0 n = cellsO (blk w b) o n := cellsAt_mk w b o n 0 (by omega)
@[simp] theorem cellsO_some {c : Array Value} {t : TypeId} {f : Nat × Nat} {i n : Nat} (h : i + n ≤ c.size) : cellsO (some (.cells c t f)) i n = some ((c.toList.drop i).take n) := by
  simp [cellsO, h]

def World.setBlk (w : World) (b : Nat) (o : Obj) : World := { w with heap := w.heap.setIfInBounds b o }
def oneCells : List Value → Bool
  | [] => true
  | v :: vs => v.oneCell' && oneCells vs
def setAll : List Value → Array Value → Nat → Array Value
  | [], c, _ => c
  | v :: vs, c, i => setAll vs (c.setIfInBounds i v) (i + 1)
theorem setAll_size : ∀ (vs : List Value) (c : Array Value) (i : Nat), (setAll vs c i).size = c.size
  | [], _, _ => rfl
  | v :: vs, c, i => by simp [setAll, setAll_size vs]
theorem setCell_blk {w : World} {b o : Nat} {c : Array Value} {t : TypeId} {f : Nat × Nat} (h : blk w b = some (.cells c t f)) (v : Value) : w.setCell ⟨b, o, none⟩ v = World.setBlk w b (.cells (c.setIfInBounds o v) t f) := by
  obtain ⟨hlt, hb⟩ := Array.getElem?_eq_some_iff.1 (show w.heap[b]? = _ from h)
  unfold World.setCell World.setBlk
  congr 1
  apply Array.ext_getElem?
  intro i
  rw [Array.getElem?_modify]
  by_cases hi : b = i
  · subst hi
    simp [hlt, hb]
  · simp [hi, Array.getElem?_setIfInBounds_ne hi]
theorem setBlk_heap (w : World) (b : Nat) (o : Obj) (i : Nat) : blk (World.setBlk w b o) i = if b = i then (blk w i).map (fun _ => o) else blk w i := by
  unfold World.setBlk blk
  by_cases h : b = i
  · subst h
    by_cases hlt : b < w.heap.size
    · simp [hlt]
    · simp [hlt]
  · simp [h, Array.getElem?_setIfInBounds_ne h]
theorem setBlk_setBlk (w : World) (b : Nat) (o o' : Obj) : World.setBlk (World.setBlk w b o) b o' = World.setBlk w b o' := by simp [World.setBlk]
theorem stores_blk {b o : Nat} {t : TypeId} : ∀ (vs : List Value) (i : Nat) (w : World) (c : Array Value), blk w b = some (.cells c t (0, 0)) → oneCells vs = true → o + i + vs.length ≤ c.size → vs ≠ [] →
    stores ⟨b, o, none⟩ vs i w = some (World.setBlk w b (.cells (setAll vs c (o + i)) t (0, 0)))
  | [], _, _, _, _, _, _, h => absurd rfl h
  | v :: vs, i, w, c, hb, h1, h2, _ => by
    simp only [oneCells, Bool.and_eq_true] at h1
    simp only [List.length_cons] at h2
    have hfr : w.frozen? ⟨b, o + i, none⟩ = false := by unfold World.frozen?; rw [show w.heap[b]? = _ from hb]; simp
    have hcl : (w.cell? ⟨b, o + i, none⟩).isSome = true := by rw [cell_mk, hb]; simp; omega
    have hs : w.setCell ⟨b, o + i, none⟩ v = World.setBlk w b (.cells (c.setIfInBounds (o + i) v) t (0, 0)) := setCell_blk hb v
    simp only [stores, add_mk, h1.1, hfr, hcl, hs, Bool.and_true, Bool.not_false, cond_true]
    have hb' : blk (World.setBlk w b (.cells (c.setIfInBounds (o + i) v) t (0, 0))) b = some (.cells (c.setIfInBounds (o + i) v) t (0, 0)) := by rw [setBlk_heap, hb]; simp
    cases vs with
    | nil => simp [stores, setAll]
    | cons u us =>
      rw [stores_blk (u :: us) (i + 1) _ _ hb' h1.2 (by simp at h2 ⊢; omega) (by simp), setBlk_setBlk]
      simp [setAll, Nat.add_assoc]

theorem alloc_heap (w : World) (o : Obj) (i : Nat) : blk (w.alloc o) i = if i = w.heap.size then some o else blk w i := by
  show (w.heap.push o)[i]? = if i = w.heap.size then some o else w.heap[i]?
  rw [Array.getElem?_push]
@[simp] theorem alloc_heap_new (w : World) (o : Obj) : blk (w.alloc o) w.heap.size = some o := by rw [alloc_heap, if_pos rfl]
theorem alloc_heap_old {w : World} {o : Obj} {i : Nat} (h : i < w.heap.size) : blk (w.alloc o) i = blk w i := by rw [alloc_heap, if_neg (by omega)]
@[simp] theorem drew_heap (w : World) : w.drew.heap = w.heap := rfl
@[simp] theorem drew_blk (w : World) (b : Nat) : blk w.drew b = blk w b := rfl
theorem setBlk_size (w : World) (b : Nat) (o : Obj) : (World.setBlk w b o).heap.size = w.heap.size := by simp [World.setBlk]
theorem lt_of_blk {w : World} {b : Nat} {o : Obj} (h : blk w b = some o) : b < w.heap.size := (Array.getElem?_eq_some_iff.1 (show w.heap[b]? = _ from h)).1

theorem stores_new {w : World} {c : Array Value} {t : TypeId} {o : Nat} {vs : List Value} (h1 : oneCells vs = true) (h2 : o + vs.length ≤ c.size) (h3 : vs ≠ []) : stores ⟨w.heap.size, o, none⟩ vs 0 (w.alloc (.cells c t)) = some (w.alloc (.cells (setAll vs c o) t)) := by
  rw [stores_blk vs 0 (w.alloc (.cells c t)) c (alloc_heap_new _ _) h1 (by simpa using h2) h3]
  simp only [Nat.add_zero, Option.some.injEq]
  unfold World.setBlk World.alloc
  congr 1
  apply Array.ext_getElem?
  intro i
  by_cases hi : w.heap.size = i
  · subst hi; simp
  · rw [Array.getElem?_setIfInBounds_ne hi, Array.getElem?_push, Array.getElem?_push, if_neg (fun e => hi e.symm), if_neg (fun e => hi e.symm)]
attribute [simp] stores_new setAll oneCells Value.oneCell' Value.cells
/-- All that was there is as it was, but for the blocks of fp. -/
structure Mod (fp : Nat → Prop) (w w' : World) : Prop where
  os : w'.os = w.os
  tape : w'.tape = w.tape
  output : w'.output = w.output
  size : w.heap.size ≤ w'.heap.size
  kept : ∀ k, k < w.heap.size → ¬ fp k → blk w' k = blk w k
/-- Nothing that was there has changed. -/
abbrev Same (w w' : World) : Prop := Mod (fun _ => False) w w'
theorem Mod.refl (fp : Nat → Prop) (w : World) : Mod fp w w := ⟨rfl, rfl, rfl, Nat.le_refl _, fun _ _ _ => rfl⟩
theorem Mod.trans {fp : Nat → Prop} {a b c : World} (h : Mod fp a b) (k : Mod fp b c) : Mod fp a c :=
  ⟨k.os.trans h.os, k.tape.trans h.tape, k.output.trans h.output, Nat.le_trans h.size k.size, fun i hi hf => (k.kept i (Nat.lt_of_lt_of_le hi h.size) hf).trans (h.kept i hi hf)⟩
theorem Mod.mono {fp fp' : Nat → Prop} {w w' : World} (h : Mod fp w w') (hm : ∀ k, k < w.heap.size → fp k → fp' k) : Mod fp' w w' := ⟨h.os, h.tape, h.output, h.size, fun k hk hf => h.kept k hk fun hh => hf (hm k hk hh)⟩
theorem Mod.of_same {fp : Nat → Prop} {w w' : World} (h : Same w w') : Mod fp w w' := h.mono fun _ _ h => h.elim
theorem Mod.trans' {fp : Nat → Prop} {a b c : World} (h : Mod fp a b) (k : Mod (fun i => fp i ∨ a.heap.size ≤ i) b c) : Mod fp a c :=
  ⟨k.os.trans h.os, k.tape.trans h.tape, k.output.trans h.output, Nat.le_trans h.size k.size, fun i hi hf => (k.kept i (Nat.lt_of_lt_of_le hi h.size) (by rintro (h | h); exact hf h; omega)).trans (h.kept i hi hf)⟩
theorem Mod.alloc {fp : Nat → Prop} {a w : World} (h : Mod fp a w) (o : Obj) : Mod fp a (w.alloc o) :=
  h.trans ⟨rfl, rfl, rfl, by simp, fun k hk _ => alloc_heap_old hk⟩
theorem Mod.drew {fp : Nat → Prop} {a w : World} (h : Mod fp a w) : Mod fp a w.drew := ⟨h.os, h.tape, h.output, h.size, h.kept⟩
theorem Mod.setBlk {fp : Nat → Prop} {a w : World} (h : Mod fp a w) {b : Nat} (o : Obj) (hb : fp b ∨ a.heap.size ≤ b) : Mod fp a (World.setBlk w b o) :=
  ⟨h.os, h.tape, h.output, by rw [setBlk_size]; exact h.size, fun k hk hf => by
    rw [setBlk_heap, if_neg (fun e => by rcases hb with hb | hb; exact hf (e ▸ hb); omega)]
    exact h.kept k hk hf⟩
theorem Mod.get {fp : Nat → Prop} {w w' : World} (h : Mod fp w w') {b : Nat} {o : Obj} (hb : blk w b = some o) (hf : ¬ fp b) : blk w' b = some o := (h.kept b (lt_of_blk hb) hf).trans hb
theorem Mod.below {w w' : World} (h : Same w w') : Below w.heap.size w w' := ⟨h.os, h.tape, h.output, h.size, fun k hk => h.kept k hk (fun h => h)⟩
end Go.Ev
