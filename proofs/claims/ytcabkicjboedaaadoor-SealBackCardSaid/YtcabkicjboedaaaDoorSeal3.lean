/-
Lemmas for the statements of this seat: no statement of the seat is proved in this part (3 of 4); the conditions stand in each theorem.
-/
import Derived.Test.YtcabkicjboedaaaDoorSeal2
import Derived.Laws.BytesArg
import Derived.Test.YtcabkicjboedaaaDoorChecked
section
namespace Go.Proofs.YtcabkicjboedaaaDoor
open Go Go.Ev
set_option linter.unusedVariables false
set_option linter.unusedSimpArgs false
set_option maxRecDepth 100000

/-! ### States -/
structure BM where
  id : Int
  parts : List Part
structure SM where
  frame : Int
  next : Int
  seed : Int
  beings : List BM
  res : List Int
def isFrameF (n : Int) : Bool := decide (0 ≤ n) && decide (n ≤ 1073741824)
def partsGood : Int → List Part → Bool
  | _, [] => true
  | last, p :: r => decide (last < p.comp) && (decide (p.comp < 16) && (isFrameF p.tick && partsGood p.comp r))
def beingsGood (next : Int) : Int → List BM → Bool
  | _, [] => true
  | last, b :: r => decide (last < b.id) && (decide (b.id < next) && (partsGood (-1) b.parts && beingsGood next b.id r))
def goodF (st : SM) : Bool := isFrameF st.frame && (decide (1 ≤ st.next) && (isFrameF (st.next - 1) && (decide (st.beings.length ≤ 64) && (decide (st.res.length ≤ 8) && beingsGood st.next 0 st.beings))))
structure BV where
  id : Int
  pa : Option Addr
  pc : Nat
  parts : List Part
def BV.cells (b : BV) : List Value := [.int .i64 b.id, .slice b.pa b.parts.length b.pc]
def BV.m (b : BV) : BM := ⟨b.id, b.parts⟩
def BV.ok (w : World) (b : BV) : Prop := I64 b.id ∧ (∀ p ∈ b.parts, p.ok) ∧ SlIs w b.pa b.parts.length 6 (b.parts.flatMap Part.cells)
theorem BV.ok.same {w w' : World} {b : BV} (h : b.ok w) (hm : Same w w') : b.ok w' := ⟨h.1, h.2.1, h.2.2.same hm⟩
def intV (n : Int) : Value := .int .i64 n
structure SV where
  frame : Int
  next : Int
  seed : Int
  ba : Option Addr
  bc : Nat
  bl : List BV
  ra : Option Addr
  rc : Nat
  rl : List Int
def SV.cells (s : SV) : List Value := [.int .i64 s.frame, .int .i64 s.next, .int .i64 s.seed, .slice s.ba s.bl.length s.bc, .slice s.ra s.rl.length s.rc]
def SV.val (s : SV) : Value := .agg s.cells.toArray
def SV.m (s : SV) : SM := ⟨s.frame, s.next, s.seed, s.bl.map BV.m, s.rl⟩
def SV.ok (w : World) (s : SV) : Prop := I64 s.frame ∧ I64 s.next ∧ I64 s.seed ∧ (∀ x ∈ s.rl, I64 x) ∧ (∀ b ∈ s.bl, b.ok w) ∧ SlIs w s.ba s.bl.length 2 (s.bl.flatMap BV.cells) ∧ SlIs w s.ra s.rl.length 1 (s.rl.map intV)
theorem SV.ok.same {w w' : World} {s : SV} (h : s.ok w) (hm : Same w w') : s.ok w' := by
  obtain ⟨h1, h2, h3, h4, h5, h6, h7⟩ := h
  exact ⟨h1, h2, h3, h4, fun b hb => (h5 b hb).same hm, h6.same hm, h7.same hm⟩

theorem isFrame_spec (n : Int) (w : World) : Meets Tryd.prog 62 #[.int .i64 n] w fun v w' => v = .bool (isFrameF n) ∧ w' = w := by
  refine f62_ok ?_
  unfold f62
  rw [kint_geq, kB_bool]
  unfold isFrameF
  refine kIf_dec (fun h => ?_) (fun h => ?_)
  · rw [kint_leq, decide_eq_true (show 0 ≤ n from h), Bool.true_and]
    exact ⟨rfl, rfl⟩
  · rw [decide_eq_false (show ¬ 0 ≤ n from h), Bool.false_and]
    exact ⟨rfl, rfl⟩

def PtsInv (l : List Part) (w : World) (x3 x8 : Value) (wr : World) : Prop := ∃ (last : Int) (i : Nat), i ≤ l.length ∧ x3 = .int .i64 last ∧ x8 = .int .i64 i ∧ partsGood (-1) l = partsGood last (l.drop i) ∧ Same w wr
theorem isParts_spec {w : World} (l : List Part) (hn : l.length ≤ 4611686018427387904) (a : Option Addr) (c : Nat) (hs : SlIs w a l.length 6 (l.flatMap Part.cells)) :
    Meets Tryd.prog 63 #[.slice a l.length c] w fun v w' => v = .bool (partsGood (-1) l) ∧ Same w w' := by
  refine f63_ok ?_
  unfold f63
  rw [klen_slice]
  refine kL_of (PtsInv l w) (fun _ x _ => l.length - (RowKit.intOf x).toNat) ⟨⟨-1, 0, by omega, rfl, rfl, rfl, Mod.refl _ _⟩, ?_⟩
  rintro x3 x8 wr ⟨last, i, hi, rfl, rfl, hg, hm⟩
  unfold f63_0
  rw [kint_lss, kB_bool]
  refine kIf_dec (fun hlt => ?_) (fun hge => ?_)
  · have hlt : i < l.length := by omega
    have hd : l.drop i = l[i] :: l.drop (i + 1) := by rw [List.drop_eq_getElem_cons hlt]
    rw [hd] at hg
    unfold f63_1
    refine kixldN_of (F := Part.cells) (fun _ => rfl) (by omega) (hs.same hm) hlt rfl ?_
    generalize l[i] = p at *
    refine knew_of fun w7 h7 hs7 hb7 => ?_
    refine kst_of (vs := p.cells) hb7 rfl rfl rfl (by simp) (by simp [Part.cells]) fun w8 h8 hs8 hb8 => ?_
    have hb8 : blk w8 wr.heap.size = some (.cells p.cells.toArray 73) := hb8
    have m8 : Same w w8 := hm.trans (Mod.after h7 h8 (fun b hb => by omega))
    have bad : partsGood (-1) l = false → f63_2 (.pointer (some ⟨wr.heap.size, 0, none⟩)) (.slice a l.length c) (.int .i64 l.length) (.int .i64 i) (.bool true)
        (fun y3 y8 w2 => PtsInv l w y3 y8 w2 ∧ l.length - (RowKit.intOf y8).toNat < l.length - (RowKit.intOf (Value.int .i64 i)).toNat) (fun v w' => v = .bool (partsGood (-1) l) ∧ Same w w') w8 := by
      intro h
      unfold f63_2
      rw [kB_bool, kIf_true]
      exact ⟨by rw [h], m8⟩
    refine kfld_of ?_
    refine kld_of (v := .int .i64 p.comp) hb8 rfl ?_
    rw [kint_leq, kB_bool]
    refine kIf_of (fun h1 => ?_) (fun h1 => ?_)
    rotate_left
    · have h1 : ¬ last < p.comp := by simp at h1; omega
      refine bad ?_
      rw [hg, partsGood, decide_eq_false h1, Bool.false_and]
    have h1 : last < p.comp := by simp at h1; omega
    refine kfld_of ?_
    refine kld_of (v := .int .i64 p.comp) hb8 rfl ?_
    rw [kint_geq, kB_bool]
    refine kIf_of (fun h2 => ?_) (fun h2 => ?_)
    rotate_left
    · have h2 : ¬ p.comp < 16 := by simp at h2; omega
      refine bad ?_
      rw [hg, partsGood, decide_eq_false h2, Bool.false_and, Bool.and_false]
    have h2 : p.comp < 16 := by simp at h2; omega
    refine kfld_of ?_
    refine kld_of (v := .int .i64 p.tick) hb8 rfl ?_
    refine kcall_of (isFrame_spec p.tick w8) ?_
    rintro v w' ⟨rfl, rfl⟩
    rw [kun_not]
    cases hf : isFrameF p.tick with
    | false =>
      refine bad ?_
      rw [hg, partsGood, hf, Bool.false_and, Bool.and_false, Bool.and_false]
    | true =>
      unfold f63_2
      rw [Bool.not_true, kB_bool, kIf_false]
      unfold f63_3
      refine kfld_of ?_
      refine kld_of (v := .int .i64 p.comp) hb8 rfl ?_
      unfold f63_4
      rw [kint_add, i64_succ (by omega)]
      refine ⟨⟨p.comp, i + 1, by omega, rfl, rfl, ?_, m8⟩, by simp [RowKit.intOf]; omega⟩
      rw [hg, partsGood, hf, decide_eq_true h1, decide_eq_true h2, Bool.true_and, Bool.true_and, Bool.true_and]
  · have : i = l.length := by omega
    subst this
    unfold f63_5
    refine ⟨?_, hm⟩
    rw [hg, List.drop_length]; rfl

def BgsInv (next : Int) (l : List BV) (w : World) (b1 : Nat) (cs : List Value) (x3 x37 : Value) (wr : World) : Prop :=
  ∃ (last : Int) (i : Nat), i ≤ l.length ∧ x3 = .int .i64 last ∧ x37 = .int .i64 i ∧ beingsGood next 0 (l.map BV.m) = beingsGood next last ((l.map BV.m).drop i) ∧ Same w wr ∧ blk wr b1 = some (.cells cs.toArray 55)
theorem Good_spec {w : World} (s : SV) (hs : s.ok w) (hn : ∀ b ∈ s.bl, b.parts.length ≤ 4611686018427387904) :
    Meets Tryd.prog 26 #[s.val] w fun v w' => v = .bool (goodF s.m) ∧ Same w w' := by
  obtain ⟨hfr, hnx, hsd, hrl, hbl, hba, hra⟩ := hs
  refine f26_ok ?_
  unfold f26
  refine knew_of fun w2 h2 hs2 hb2 => ?_
  have hb2 : blk w2 w.heap.size = some (.cells s.cells.toArray 55) := hb2
  have bad : ∀ wr, Same w wr → goodF s.m = false → f26_0 (.pointer (some ⟨w.heap.size, 0, none⟩)) (.bool true) (fun v w' => v = .bool (goodF s.m) ∧ Same w w') wr := by
    intro wr hm h
    unfold f26_0
    rw [kB_bool, kIf_true]
    exact ⟨by rw [h], hm⟩
  refine kfld_of ?_
  refine kld_of (v := .int .i64 s.frame) hb2 rfl ?_
  refine kcall_of (isFrame_spec s.frame w2) ?_
  rintro v w6 ⟨rfl, rfl⟩
  rw [kun_not, kB_bool, Bool.not_not]
  refine kIf_of (fun h1 => ?_) (fun h1 => bad _ h2 (by unfold goodF; rw [show isFrameF s.m.frame = false from h1, Bool.false_and]))
  refine kfld_of ?_
  refine kld_of (v := .int .i64 s.next) hb2 rfl ?_
  rw [kint_lss, kB_bool]
  refine kIf_of (fun h3 => ?_) (fun h3 => ?_)
  rotate_left
  · have h3 : ¬ 1 ≤ s.m.next := by simp at h3; show ¬ 1 ≤ s.next; omega
    exact bad _ h2 (by unfold goodF; rw [decide_eq_false h3, Bool.false_and, Bool.and_false])
  have h3 : 1 ≤ s.m.next := by simp at h3; show 1 ≤ s.next; omega
  have h3' : 1 ≤ s.next := h3
  refine kfld_of ?_
  refine kld_of (v := .int .i64 s.next) hb2 rfl ?_
  rw [kint_sub, wrap_i64 (by omega) (by have := hnx.2; omega)]
  refine kcall_of (isFrame_spec (s.next - 1) w6) ?_
  rintro v w17 ⟨rfl, rfl⟩
  rw [kun_not, kB_bool, Bool.not_not]
  refine kIf_of (fun h4 => ?_) (fun h4 => bad _ h2 (by unfold goodF; rw [show isFrameF (s.m.next - 1) = false from h4, Bool.false_and, Bool.and_false, Bool.and_false]))
  refine kfld_of ?_
  refine kld_of (v := .slice s.ba s.bl.length s.bc) hb2 rfl ?_
  rw [klen_slice, kint_gtr, kB_bool]
  have hlen : s.m.beings.length = s.bl.length := List.length_map ..
  refine kIf_of (fun h5 => ?_) (fun h5 => ?_)
  rotate_left
  · have h5 : ¬ s.m.beings.length ≤ 64 := by simp at h5; omega
    exact bad _ h2 (by unfold goodF; rw [decide_eq_false h5, Bool.false_and, Bool.and_false, Bool.and_false, Bool.and_false])
  have h5 : s.m.beings.length ≤ 64 := by simp at h5; omega
  refine kfld_of ?_
  refine kld_of (v := .slice s.ra s.rl.length s.rc) hb2 rfl ?_
  rw [klen_slice, kint_gtr]
  by_cases h6 : s.m.res.length ≤ 8
  rotate_left
  · rw [decide_eq_true (show (8 : Int) < s.rl.length by have : s.m.res.length = s.rl.length := rfl; omega)]
    exact bad _ h2 (by unfold goodF; rw [decide_eq_false h6, Bool.false_and, Bool.and_false, Bool.and_false, Bool.and_false, Bool.and_false])
  rw [decide_eq_false (show ¬ (8 : Int) < s.rl.length by have : s.m.res.length = s.rl.length := rfl; omega)]
  have hgood : goodF s.m = beingsGood s.next 0 (s.bl.map BV.m) := by
    unfold goodF
    rw [show isFrameF s.m.frame = true from h1, show isFrameF (s.m.next - 1) = true from h4, decide_eq_true h3, decide_eq_true h5, decide_eq_true h6]
    rfl
  rw [hgood]
  clear bad
  unfold f26_0
  rw [kB_bool, kIf_false]
  unfold f26_1
  refine kfld_of ?_
  refine kld_of (v := .slice s.ba s.bl.length s.bc) hb2 rfl ?_
  rw [klen_slice]
  have hbl64 : s.bl.length ≤ 64 := by omega
  refine kL_of (BgsInv s.next s.bl w w.heap.size s.cells) (fun _ x _ => s.bl.length - (RowKit.intOf x).toNat) ⟨⟨0, 0, by omega, rfl, rfl, rfl, h2, hb2⟩, ?_⟩
  rintro x3 x37 wr ⟨last, i, hi, rfl, rfl, hg, hm, hb1⟩
  unfold f26_2
  rw [kint_lss, kB_bool]
  refine kIf_dec (fun hlt => ?_) (fun hge => ?_)
  · have hlt : i < s.bl.length := by omega
    have hd : (s.bl.map BV.m).drop i = s.bl[i].m :: (s.bl.map BV.m).drop (i + 1) := by rw [List.drop_eq_getElem_cons (by simpa using hlt)]; simp
    rw [hd] at hg
    have hbi := hbl s.bl[i] (List.getElem_mem hlt)
    have hni := hn s.bl[i] (List.getElem_mem hlt)
    unfold f26_3
    refine kixldN_of (F := BV.cells) (fun _ => rfl) (by omega) (hba.same hm) hlt rfl ?_
    generalize s.bl[i] = p at *
    refine knew_of fun w7 h7 hs7 hb7 => ?_
    refine kst_of (vs := p.cells) hb7 rfl rfl rfl (by simp) (by simp [BV.cells]) fun w8 h8 hs8 hb8 => ?_
    have hb8 : blk w8 wr.heap.size = some (.cells p.cells.toArray 85) := hb8
    have hm8 : Same wr w8 := Mod.after h7 h8 (fun b hb => by omega)
    have m8 : Same w w8 := hm.trans hm8
    have hb1 := hm8.get hb1 (fun h => h)
    have bad : ∀ w9, Same w w9 → beingsGood s.next 0 (s.bl.map BV.m) = false → f26_4 (.pointer (some ⟨w.heap.size, 0, none⟩)) (.pointer (some ⟨wr.heap.size, 0, none⟩)) (.slice s.ba s.bl.length s.bc) (.int .i64 s.bl.length) (.int .i64 i) (.bool true)
        (fun y3 y8 w2 => BgsInv s.next s.bl w w.heap.size s.cells y3 y8 w2 ∧ s.bl.length - (RowKit.intOf y8).toNat < s.bl.length - (RowKit.intOf (Value.int .i64 i)).toNat) (fun v w' => v = .bool (beingsGood s.next 0 (s.bl.map BV.m)) ∧ Same w w') w9 := by
      intro w9 m9 h
      unfold f26_4
      rw [kB_bool, kIf_true]
      exact ⟨by rw [h], m9⟩
    refine kfld_of ?_
    refine kld_of (v := .int .i64 p.id) hb8 rfl ?_
    rw [kint_leq, kB_bool]
    refine kIf_of (fun g1 => ?_) (fun g1 => ?_)
    rotate_left
    · have g1 : ¬ last < p.m.id := by simp at g1; show ¬ last < p.id; omega
      refine bad _ m8 ?_
      rw [hg, beingsGood, decide_eq_false g1, Bool.false_and]
    have g1 : last < p.m.id := by simp at g1; show last < p.id; omega
    refine kfld_of ?_
    refine kld_of (v := .int .i64 p.id) hb8 rfl ?_
    refine kfld_of ?_
    refine kld_of (v := .int .i64 s.next) hb1 rfl ?_
    rw [kint_geq, kB_bool]
    refine kIf_of (fun g2 => ?_) (fun g2 => ?_)
    rotate_left
    · have g2 : ¬ p.m.id < s.next := by simp at g2; show ¬ p.id < s.next; omega
      refine bad _ m8 ?_
      rw [hg, beingsGood, decide_eq_false g2, Bool.false_and, Bool.and_false]
    have g2 : p.m.id < s.next := by simp at g2; show p.id < s.next; omega
    refine kfld_of ?_
    refine kld_of (v := .slice p.pa p.parts.length p.pc) hb8 rfl ?_
    refine kcall_of (isParts_spec p.parts hni p.pa p.pc (hbi.2.2.same m8)) ?_
    rintro v w9 ⟨rfl, h9⟩
    have m9 := m8.trans h9
    rw [kun_not]
    cases hf : partsGood (-1) p.parts with
    | false =>
      refine bad _ m9 ?_
      rw [hg, beingsGood, show partsGood (-1) p.m.parts = false from hf, Bool.false_and, Bool.and_false, Bool.and_false]
    | true =>
      unfold f26_4
      rw [Bool.not_true, kB_bool, kIf_false]
      unfold f26_5
      refine kfld_of ?_
      refine kld_of (v := .int .i64 p.id) (h9.get hb8 (fun h => h)) rfl ?_
      unfold f26_6
      rw [kint_add, i64_succ (by omega)]
      refine ⟨⟨p.id, i + 1, by omega, rfl, rfl, ?_, m9, h9.get hb1 (fun h => h)⟩, by simp [RowKit.intOf]; omega⟩
      rw [hg, beingsGood, show partsGood (-1) p.m.parts = true from hf, decide_eq_true g1, decide_eq_true g2, Bool.true_and, Bool.true_and, Bool.true_and]
      rfl
  · have : i = s.bl.length := by omega
    subst this
    unfold f26_7
    refine ⟨?_, hm⟩
    rw [hg, List.drop_of_length_le (by simp)]; rfl
end Go.Proofs.YtcabkicjboedaaaDoor
end
section
namespace Go.Proofs.YtcabkicjboedaaaDoor
open Go Go.Ev
set_option linter.unusedVariables false
set_option linter.unusedSimpArgs false
set_option maxRecDepth 100000

/-! ### Errors that wrap one -/
theorem AtV_spec (wh : ByteArray) (t : TypeId) (x : Value) (w : World) : Meets Tryd.prog 71 #[.string wh, .iface t x] w fun v w' =>
    v = .iface 120 (.pointer (some ⟨w.heap.size, 0, none⟩)) ∧ blk w' w.heap.size = some (.cells #[.string wh, .iface t x] 123) ∧ Same w w' := by
  refine f71_ok ?_
  unfold f71
  rw [keq_if_nil ifErr, kB_bool, kIf_false]
  unfold f71_0
  refine kbld_of (cs := [.string wh, .iface t x]) rfl ?_
  refine knew_of fun w2 h2 hs2 hb2 => ?_
  exact ⟨rfl, hb2, h2⟩
theorem wrong_spec (t : TypeId) (x : Value) (w : World) : Meets Tryd.prog 43 #[.iface t x] w fun v w' =>
    v = .iface 120 (.pointer (some ⟨w.heap.size, 0, none⟩)) ∧ (∃ wh, blk w' w.heap.size = some (.cells #[.string wh, .iface t x] 123)) ∧ Same w w' := by
  refine f43_ok ?_
  unfold f43
  refine kcall_of (AtV_spec _ t x w) ?_
  rintro v w' ⟨rfl, h1, h2⟩
  exact ⟨rfl, ⟨_, h1⟩, h2⟩
/-- A sentinel's variable, loaded. -/
theorem kld_err {N : Nat} {S : Nat → Addr} {w w' : World} (h : LaidN N S w) {k g : Nat} (h1 : 1 ≤ k) (h2 : k ≤ N) (hg : gErr k = g) (hw : w'.heap = w.heap) {K : Value → Prop} (hK : K (errV S k)) : kld (.pointer (some ⟨g, 0, none⟩)) w' K := by
  obtain ⟨c, t, f, hb, hc⟩ := h.glob k h1 h2
  rw [hg] at hb
  exact kld_of (w := w') (by unfold blk at *; rw [hw]; exact hb) hc hK
theorem End_spec {S : Nat → Addr} {w : World} (hL : LaidN 4 S w) {b : Nat} {r : RS} (h : RdAt w b r) : Meets Tryd.prog 42 #[.pointer (some ⟨b, 0, none⟩)] w fun v w' =>
    Same w w' ∧ ((r.bad = false ∧ r.rest = [] ∧ v = .nilIface) ∨ ((r.bad = true ∨ r.rest ≠ []) ∧ ∃ t x, v = .iface t x)) := by
  have hh : blk w b = some (.cells #[.string (bs r.rest), .bool r.bad] 136) := h
  refine f42_ok ?_
  unfold f42
  rw [keq_ptr_nil ptReader, kB_bool]
  refine kIf_of (fun h => by cases h) (fun _ => ?_)
  have err : (r.bad = true ∨ r.rest ≠ []) → f42_0 (.bool true) (fun v w' => Same w w' ∧ ((r.bad = false ∧ r.rest = [] ∧ v = .nilIface) ∨ ((r.bad = true ∨ r.rest ≠ []) ∧ ∃ t x, v = .iface t x))) w := by
    intro hc
    unfold f42_0
    rw [kB_bool, kIf_true]
    refine kld_err hL (k := 3) (by omega) (by omega) rfl rfl ?_
    refine kcall_of (AtV_spec _ _ _ w) ?_
    rintro v w' ⟨rfl, h1, h2⟩
    exact ⟨h2, .inr ⟨hc, _, _, rfl⟩⟩
  rw [kN_ptr]
  refine kfld_of ?_
  refine kld_of (v := .bool r.bad) hh rfl ?_
  rw [kB_bool]
  refine kIf_of (fun hb => ?_) (fun hb => ?_)
  · have hb : r.bad = false := by simpa using hb
    rw [kN_ptr]
    refine kfld_of ?_
    refine kld_of (v := .string (bs r.rest)) hh rfl ?_
    rw [bs_nil, kstr_neq]
    by_cases he : r.rest = []
    · rw [decide_eq_true (by rw [he])]
      unfold f42_0
      rw [Bool.not_true, kB_bool, kIf_false]
      unfold f42_1
      exact ⟨Mod.refl _ _, .inl ⟨hb, he, rfl⟩⟩
    · rw [decide_eq_false (by rw [bs_inj]; exact he)]
      exact err (.inr he)
  · exact err (.inl (by simpa using hb))

/-! ### The scan -/
structure SC where
  r : RS
  bad : Bool
def ScAt (w : World) (bS bR : Nat) (s : SC) : Prop := blk w bS = some (.cells #[.pointer (some ⟨bR, 0, none⟩), .bool s.bad] 90) ∧ RdAt w bR s.r ∧ bS ≠ bR ∧ s.r.rest.length ≤ 9223372036854775807
def ScTo (w : World) (bS bR : Nat) (s : SC) (w' : World) : Prop := ScAt w' bS bR s ∧ Mod (fun k => k = bS ∨ k = bR) w w'
theorem ScAt.mod {fp : Nat → Prop} {w w' : World} {bS bR : Nat} {s : SC} (h : ScAt w bS bR s) (hm : Mod fp w w') (h1 : ¬ fp bS) (h2 : ¬ fp bR) : ScAt w' bS bR s := ⟨hm.get h.1 h1, hm.get h.2.1 h2, h.2.2.1, h.2.2.2⟩
theorem ScAt.same {w w' : World} {bS bR : Nat} {s : SC} (h : ScAt w bS bR s) (hm : Same w w') : ScAt w' bS bR s := h.mod hm (fun h => h) (fun h => h)
theorem ScAt.lt {w : World} {bS bR : Nat} {s : SC} (h : ScAt w bS bR s) : bS < w.heap.size ∧ bR < w.heap.size := ⟨lt_of_blk h.1, lt_of_blk h.2.1⟩
/-- A reader's method leads to a scan's state. -/
theorem ScAt.rd {w w' : World} {bS bR : Nat} {s : SC} (h : ScAt w bS bR s) {r : RS} (hr : RdTo w bR r w') (hl : r.rest.length ≤ s.r.rest.length) : ScTo w bS bR ⟨r, s.bad⟩ w' :=
  ⟨⟨hr.2.1.get h.1 (fun e => h.2.2.1 e), hr.1, h.2.2.1, Nat.le_trans hl h.2.2.2⟩, hr.2.1.mono fun k _ e => .inr e⟩
theorem refuse_spec {w : World} {bS bR : Nat} {s : SC} (h : ScAt w bS bR s) (ok : Bool) : Meets Tryd.prog 37 #[.pointer (some ⟨bS, 0, none⟩), .bool ok] w fun v w' =>
    ScTo w bS bR ⟨s.r, s.bad || !ok⟩ w' ∧ w'.heap.size = w.heap.size := by
  obtain ⟨h1, h2, h3, h4⟩ := h
  refine f37_ok ?_
  unfold f37
  rw [kN_ptr]
  refine kfld_of ?_
  refine kld_of (v := .bool s.bad) h1 rfl ?_
  rw [kB_bool]
  refine kIf_of (fun hb => ?_) (fun hb => ?_)
  · have hb : s.bad = false := by simpa using hb
    rw [kun_not, kN_ptr]
    refine kfld_of ?_
    refine kst_of (vs := [.bool (!ok)]) h1 rfl rfl rfl (by simp) (by simp) fun w3 h5 hs5 hb5 => ?_
    refine ⟨⟨⟨?_, h5.get h2 (fun e => h3 e.symm), h3, h4⟩, h5.mono fun k _ e => .inl e⟩, hs5⟩
    rw [hb, Bool.false_or]
    exact hb5
  · have hb : s.bad = true := by simpa using hb
    rw [kN_ptr]
    refine kfld_of ?_
    refine kst_of (vs := [.bool true]) h1 rfl rfl rfl (by simp) (by simp) fun w3 h5 hs5 hb5 => ?_
    refine ⟨⟨⟨?_, h5.get h2 (fun e => h3 e.symm), h3, h4⟩, h5.mono fun k _ e => .inl e⟩, hs5⟩
    rw [hb, Bool.true_or]
    exact hb5
def M63 : Nat := 9223372036854775807
def M64 : Nat := 18446744073709551615
def scCount (most : Int) (s : SC) : Nat × SC :=
  (if (s.bad || !decide (((numF M63 s.r).1 : Int) ≤ most)) = true then 0 else (numF M63 s.r).1, ⟨(numF M63 s.r).2, s.bad || !decide (((numF M63 s.r).1 : Int) ≤ most)⟩)
theorem scCount_le {most : Int} (hm : 0 ≤ most) (s : SC) : ((scCount most s).1 : Int) ≤ most := by
  unfold scCount
  simp only
  split
  · exact hm
  · rename_i h
    simp only [Bool.or_eq_true, Bool.not_eq_true', decide_eq_false_iff_not, not_or] at h
    exact Decidable.not_not.1 h.2
theorem count_spec {w : World} {bS bR : Nat} {s : SC} (h : ScAt w bS bR s) (most : Int) : Meets Tryd.prog 40 #[.pointer (some ⟨bS, 0, none⟩), .int .i64 most] w fun v w' =>
    v = .int .i64 (scCount most s).1 ∧ ScTo w bS bR (scCount most s).2 w' ∧ w'.heap.size = w.heap.size := by
  refine f40_ok ?_
  unfold f40
  rw [kN_ptr]
  refine kfld_of ?_
  refine kld_of (v := .pointer (some ⟨bR, 0, none⟩)) h.1 rfl ?_
  refine kcall_of (Count_spec h.2.1 h.2.2.2) ?_
  rintro v w2 ⟨rfl, h2⟩
  have h3 := h.rd h2 (numF_len _ _)
  rw [kint_leq]
  refine kcall_of (refuse_spec h3.1 _) ?_
  rintro v w4 ⟨h4, hs4⟩
  rw [kN_ptr]
  refine kfld_of ?_
  refine kld_of (v := .bool (s.bad || !decide (((numF 9223372036854775807 s.r).1 : Int) ≤ most))) h4.1.1 rfl ?_
  rw [kB_bool]
  have h5 : ScTo w bS bR (scCount most s).2 w4 := ⟨h4.1, h3.2.trans h4.2⟩
  have hsz : w4.heap.size = w.heap.size := hs4.trans h2.2.2
  refine kIf_of (fun hb => ?_) (fun hb => ?_)
  · refine ⟨?_, h5, hsz⟩
    unfold scCount M63; simp only; rw [if_pos hb]; rfl
  · unfold f40_0
    refine ⟨?_, h5, hsz⟩
    unfold scCount M63; simp only; rw [if_neg (by rw [hb]; decide)]

def valsF (n : Int) (s : SC) : Nat → List Int × SC
  | 0 => ([], s)
  | i + 1 => ((valsF n s i).1 ++ [unzz (numF M64 (valsF n s i).2.r).1], ⟨(numF M64 (valsF n s i).2.r).2, (valsF n s i).2.bad || !(decide ((i : Int) < n - 1) || decide (unzz (numF M64 (valsF n s i).2.r).1 ≠ 0))⟩)
theorem valsF_len1 (n : Int) (s : SC) : ∀ i, (valsF n s i).1.length = i
  | 0 => rfl
  | i + 1 => by simp [valsF, valsF_len1 n s i]
def partF (comp : Int) (s : SC) : Part × SC :=
  let n := (byteF s.r).1
  let p := valsF n ⟨(byteF s.r).2, s.bad || !decide ((n : Int) ≤ 4)⟩ (min n 4)
  (⟨comp, p.1.getD 0 0, p.1.getD 1 0, p.1.getD 2 0, p.1.getD 3 0, (numF M63 p.2.r).1⟩, ⟨(numF M63 p.2.r).2, p.2.bad⟩)
def padC (comp : Int) (zs : List Int) : List Value := [.int .i64 comp, .int .i64 (zs.getD 0 0), .int .i64 (zs.getD 1 0), .int .i64 (zs.getD 2 0), .int .i64 (zs.getD 3 0), .int .i64 0]
theorem padC_set (comp z : Int) (zs : List Int) (h : zs.length < 4) : (padC comp zs).toArray.setIfInBounds (1 + zs.length) (.int .i64 z) = (padC comp (zs ++ [z])).toArray := by
  match zs, h with
  | [], _ => rfl
  | [a], _ => rfl
  | [a, b], _ => rfl
  | [a, b, c], _ => rfl
def ValInv (comp : Int) (n : Nat) (s1 : SC) (w : World) (bS bR b1 b4 : Nat) (x : Value) (wr : World) : Prop :=
  ∃ i : Nat, i ≤ min n 4 ∧ x = .int .i64 i ∧ ScAt wr bS bR (valsF n s1 i).2 ∧ blk wr b4 = some (.cells (padC comp (valsF n s1 i).1).toArray 73) ∧ blk wr b1 = some (.cells (padC 0 []).toArray 73) ∧ Mod (fun k => k = bS ∨ k = bR) w wr
set_option maxHeartbeats 800000 in
theorem part_spec {w : World} {bS bR : Nat} {s : SC} (h : ScAt w bS bR s) (comp : Int) : Meets Tryd.prog 76 #[.pointer (some ⟨bS, 0, none⟩), .int .i64 comp] w fun v w' =>
    v = .agg (partF comp s).1.cells.toArray ∧ ScTo w bS bR (partF comp s).2 w' := by
  have hlt := h.lt
  refine f76_ok ?_
  unfold f76
  refine knew_of fun w2 h2 hs2 hb2 => ?_
  refine kbld_of (cs := padC comp []) rfl ?_
  refine knew_of fun w5 h5 hs5 hb5 => ?_
  refine kst_of (vs := padC comp []) hb5 rfl rfl rfl (by simp) (by simp [padC]) fun w6 h6 hs6 hb6 => ?_
  have hb6 : blk w6 w2.heap.size = some (.cells (padC comp []).toArray 73) := hb6
  have m6 : Same w w6 := Mod.after (h2.trans h5) h6 (fun b hb => by have := h2.size; omega)
  have hb1 : blk w6 w.heap.size = some (.cells (padC 0 []).toArray 73) := h6.get (h5.get hb2 (fun h => h)) (fun h => by omega)
  have hs6 := h.same m6
  rw [kN_ptr]
  refine kfld_of ?_
  refine kld_of (v := .pointer (some ⟨bR, 0, none⟩)) hs6.1 rfl ?_
  refine kcall_of (Byte_spec hs6.2.1 hs6.2.2.2) ?_
  rintro v w10 ⟨rfl, h10⟩
  have h10' := hs6.rd h10 (byteF_len _)
  rw [kint_leq]
  refine kcall_of (refuse_spec h10'.1 _) ?_
  rintro v w13 ⟨h13, hs13⟩
  have hle := byteF_le s.r
  have hF : partF comp s = (⟨comp, (valsF (byteF s.r).1 ⟨(byteF s.r).2, s.bad || !decide (((byteF s.r).1 : Int) ≤ 4)⟩ (min (byteF s.r).1 4)).1.getD 0 0, (valsF (byteF s.r).1 ⟨(byteF s.r).2, s.bad || !decide (((byteF s.r).1 : Int) ≤ 4)⟩ (min (byteF s.r).1 4)).1.getD 1 0, (valsF (byteF s.r).1 ⟨(byteF s.r).2, s.bad || !decide (((byteF s.r).1 : Int) ≤ 4)⟩ (min (byteF s.r).1 4)).1.getD 2 0, (valsF (byteF s.r).1 ⟨(byteF s.r).2, s.bad || !decide (((byteF s.r).1 : Int) ≤ 4)⟩ (min (byteF s.r).1 4)).1.getD 3 0, (numF M63 (valsF (byteF s.r).1 ⟨(byteF s.r).2, s.bad || !decide (((byteF s.r).1 : Int) ≤ 4)⟩ (min (byteF s.r).1 4)).2.r).1⟩, ⟨(numF M63 (valsF (byteF s.r).1 ⟨(byteF s.r).2, s.bad || !decide (((byteF s.r).1 : Int) ≤ 4)⟩ (min (byteF s.r).1 4)).2.r).2, (valsF (byteF s.r).1 ⟨(byteF s.r).2, s.bad || !decide (((byteF s.r).1 : Int) ≤ 4)⟩ (min (byteF s.r).1 4)).2.bad⟩) := rfl
  have h13 : ScTo w6 bS bR ⟨(byteF s.r).2, s.bad || !decide (((byteF s.r).1 : Int) ≤ 4)⟩ w13 := ⟨h13.1, h10'.2.trans h13.2⟩
  generalize hs1 : (⟨(byteF s.r).2, s.bad || !decide (((byteF s.r).1 : Int) ≤ 4)⟩ : SC) = s1 at *
  generalize (byteF s.r).1 = n at *
  refine kfld_of ?_
  rw [kmm_min, ksl_array rfl rfl]
  refine kG_of ?_ ?_
  · simp only [loV_none, hiV_int]; omega
  simp only [loV_none, hiV_int]
  rw [klen_slice]
  have hn4 : (((min (n : Int) 4).toNat - Int.toNat 0 : Nat) : Int) = ((min n 4 : Nat) : Int) := by omega
  rw [hn4]
  have M13 : Mod (fun k => k = bS ∨ k = bR) w w13 := (Mod.of_same m6).trans h13.2
  have ne1 : ¬ (w.heap.size = bS ∨ w.heap.size = bR) := by omega
  have ne4 : ¬ (w2.heap.size = bS ∨ w2.heap.size = bR) := by have := h2.size; omega
  refine kL_of (ValInv comp n s1 w bS bR w.heap.size w2.heap.size) (fun x _ => min n 4 - (RowKit.intOf x).toNat) ⟨⟨0, by omega, rfl, h13.1, h13.2.get hb6 ne4, h13.2.get hb1 ne1, M13⟩, ?_⟩
  clear h13 hb6 hb1 h10 h10' hs6
  rintro x wr ⟨i, hi, rfl, hsc, hb4, hb1, hm⟩
  unfold f76_0
  rw [kint_lss, kB_bool]
  refine kIf_dec (fun hlt2 => ?_) (fun hge => ?_)
  · have hlt2 : i < min n 4 := by omega
    have hzl := valsF_len1 n s1 i
    unfold f76_1
    rw [kN_ptr]
    refine kfld_of ?_
    refine kld_of (v := .pointer (some ⟨bR, 0, none⟩)) hsc.1 rfl ?_
    refine kcall_of (Num_spec hsc.2.1 hsc.2.2.2) ?_
    rintro v w24 ⟨rfl, h24⟩
    have h24' := hsc.rd h24 (numF_len _ _)
    have hb4 := h24'.2.get hb4 ne4
    have hb1 := h24'.2.get hb1 ne1
    refine kfld_of ?_
    rw [kix_array]
    refine kG_of (by omega) ?_
    have e1 : (i : Int).toNat * 1 = i := by omega
    rw [add_mk, e1, Nat.zero_add]
    refine kst_of (vs := [.int .i64 (unzz (numF 18446744073709551615 (valsF n s1 i).2.r).1)]) hb4 rfl rfl rfl (by simp [padC]; omega) (by simp) fun w27 h27 hs27 hb27 => ?_
    have hset := padC_set comp (unzz (numF 18446744073709551615 (valsF n s1 i).2.r).1) (valsF n s1 i).1 (by omega)
    rw [hzl] at hset
    have hb27 : blk w27 w2.heap.size = some (.cells (padC comp (valsF n s1 (i + 1)).1).toArray 73) := by
      rw [hb27]
      simp only [setAll, hset]
      rfl
    have hb1 := h27.get hb1 (fun h => by omega)
    have hsc27 := h24'.1.mod h27 (fun h => by have := h2.size; omega) (fun h => by have := h2.size; omega)
    have hm27 : Mod (fun k => k = bS ∨ k = bR) w w27 := (hm.trans h24'.2).trans' (h27.mono fun k _ e => .inr (by have := h2.size; omega))
    rw [kint_sub, wrap_i64 (by omega) (by omega), kint_lss, kB_bool]
    have next : ∀ (ok : Bool), ok = (decide ((i : Int) < n - 1) || decide (unzz (numF M64 (valsF n s1 i).2.r).1 ≠ 0)) → ∀ Q, (kcall Tryd.prog 37 #[.pointer (some ⟨bS, 0, none⟩), .bool ok] w27 fun v35 w36 =>
        f76_2 (.pointer (some ⟨bS, 0, none⟩)) (.pointer (some ⟨w.heap.size, 0, none⟩)) (.pointer (some ⟨w2.heap.size, 0, none⟩)) (.int .i64 n) (.int .i64 ((min n 4 : Nat) : Int)) (.int .i64 i)
          (fun y w2_1 => ValInv comp n s1 w bS bR w.heap.size w2.heap.size y w2_1 ∧ min n 4 - (RowKit.intOf y).toNat < min n 4 - (RowKit.intOf (Value.int .i64 i)).toNat) Q w36) := by
      intro ok hok Q
      refine kcall_of (refuse_spec hsc27 ok) ?_
      rintro v w36 ⟨h36, hs36⟩
      unfold f76_2
      rw [kint_add, i64_succ (by omega)]
      refine ⟨⟨i + 1, by omega, rfl, ?_, h36.2.get hb27 ne4, h36.2.get hb1 ne1, hm27.trans h36.2⟩, by simp [RowKit.intOf]; omega⟩
      rw [hok] at h36
      exact h36.1
    refine kIf_of (fun hd => ?_) (fun hd => ?_)
    · have hd : decide ((i : Int) < n - 1) = false := by simpa using hd
      refine kfld_of ?_
      rw [kix_array]
      refine kG_of (by omega) ?_
      rw [add_mk, e1, Nat.zero_add]
      refine kld_of (v := .int .i64 (unzz (numF M64 (valsF n s1 i).2.r).1)) hb27 ?_ ?_
      · have hget : (padC comp (valsF n s1 (i + 1)).1)[1 + i]? = some (.int .i64 (unzz (numF M64 (valsF n s1 i).2.r).1)) := by
          show (padC comp ((valsF n s1 i).1 ++ [_]))[1 + i]? = _
          generalize (valsF n s1 i).1 = zs at *
          match zs, hzl with
          | [], h => subst h; rfl
          | [a], h => subst h; rfl
          | [a, b], h => subst h; rfl
          | [a, b, c], h => subst h; rfl
          | a :: b :: c :: d :: r, h => simp at h; omega
        simpa using hget
      rw [kint_neq]
      exact next _ (by rw [hd, Bool.false_or]) _
    · have hd : decide ((i : Int) < n - 1) = true := by simpa using hd
      exact next _ (by rw [hd, Bool.true_or]) _
  · have : i = min n 4 := by omega
    subst this
    rw [hF]
    unfold f76_3
    rw [kN_ptr]
    refine kfld_of ?_
    refine kld_of (v := .pointer (some ⟨bR, 0, none⟩)) hsc.1 rfl ?_
    refine kcall_of (Count_spec hsc.2.1 hsc.2.2.2) ?_
    rintro v w43 ⟨rfl, h43⟩
    have h43' := hsc.rd h43 (numF_len _ _)
    have hb4 := h43'.2.get hb4 ne4
    have hb1 := h43'.2.get hb1 ne1
    refine kfld_of ?_
    refine kst_of (vs := [.int .i64 (numF 9223372036854775807 (valsF n s1 (min n 4)).2.r).1]) hb4 rfl rfl rfl (by simp [padC]) (by simp) fun w45 h45 hs45 hb45 => ?_
    generalize hP : (valsF n s1 (min n 4)) = P at *
    have hb45 : blk w45 w2.heap.size = some (.cells (Part.cells ⟨comp, P.1.getD 0 0, P.1.getD 1 0, P.1.getD 2 0, P.1.getD 3 0, (numF M63 P.2.r).1⟩).toArray 73) := hb45
    refine kldN_of (cs := Part.cells ⟨comp, P.1.getD 0 0, P.1.getD 1 0, P.1.getD 2 0, P.1.getD 3 0, (numF M63 P.2.r).1⟩) hb45 (by simp [Part.cells]) rfl (by omega) ?_
    have hb1 := h45.get hb1 (fun h => by omega)
    refine kst_of (vs := Part.cells ⟨comp, P.1.getD 0 0, P.1.getD 1 0, P.1.getD 2 0, P.1.getD 3 0, (numF M63 P.2.r).1⟩) hb1 rfl rfl rfl (by simp [padC]) (by simp [Part.cells]) fun w47 h47 hs47 hb47 => ?_
    have hb47 : blk w47 w.heap.size = some (.cells (Part.cells ⟨comp, P.1.getD 0 0, P.1.getD 1 0, P.1.getD 2 0, P.1.getD 3 0, (numF M63 P.2.r).1⟩).toArray 73) := hb47
    refine kldN_of (cs := Part.cells ⟨comp, P.1.getD 0 0, P.1.getD 1 0, P.1.getD 2 0, P.1.getD 3 0, (numF M63 P.2.r).1⟩) hb47 (by simp [Part.cells]) rfl (by omega) ?_
    refine ⟨rfl, ?_, ?_⟩
    · exact (h43'.1.mod h45 (fun h => by have := h2.size; omega) (fun h => by have := h2.size; omega)).mod h47 (fun h => by omega) (fun h => by omega)
    · exact ((hm.trans h43'.2).trans' (h45.mono fun k _ e => .inr (by have := h2.size; omega))).trans' (h47.mono fun k _ e => .inr (by omega))
end Go.Proofs.YtcabkicjboedaaaDoor
end
section
namespace Go.Proofs.YtcabkicjboedaaaDoor
open Go Go.Ev
set_option linter.unusedVariables false
set_option linter.unusedSimpArgs false
set_option maxRecDepth 100000

theorem apPart : appT Tryd.prog 31 6 48 = true := by kernel_rfl
theorem slPart_is : ∃ e, Tryd.prog.underlying 31 = some (.slice e) := slT_of (by kernel_rfl)
def M32 : Nat := 4294967295
def partsStep (p : List Part × SC) (c : Nat) : List Part × SC := if p.2.bad then p else (p.1 ++ [(partF c p.2).1], (partF c p.2).2)
def partsF (s : SC) (comps : List Nat) : List Part × SC := comps.foldl partsStep ([], s)
theorem partsF_snoc (s : SC) (l : List Nat) (c : Nat) : partsF s (l ++ [c]) = partsStep (partsF s l) c := by simp [partsF]
def beingF (last : Int) (s : SC) : BM × SC :=
  let c := scCount 1073741824 s
  let m := numF M32 c.2.r
  let p := partsF ⟨m.2, c.2.bad || !decide (m.1 / 65536 = 0)⟩ (listF m.1)
  (⟨last + c.1, p.1⟩, p.2)
theorem i64_zero : I64 0 := by unfold I64; omega
theorem valsF_ok (n : Int) (s : SC) : ∀ i, ∀ z ∈ (valsF n s i).1, I64 z
  | 0, z, h => by cases h
  | i + 1, z, h => by
    rcases List.mem_append.1 h with h | h
    · exact valsF_ok n s i z h
    · rw [List.mem_singleton.1 h]
      have := numF_le M64 (valsF n s i).2.r
      exact unzz_i64 (by unfold M64 at this ⊢; omega)
theorem getD_ok {l : List Int} (h : ∀ z ∈ l, I64 z) (j : Nat) : I64 (l.getD j 0) := by
  rw [List.getD_eq_getElem?_getD]
  cases hx : l[j]? with
  | none => exact i64_zero
  | some x => exact h x (List.mem_of_getElem? hx)
theorem partF_ok {comp : Int} (hc : I64 comp) (s : SC) : (partF comp s).1.ok := by
  have h := valsF_ok (byteF s.r).1 ⟨(byteF s.r).2, s.bad || !decide (((byteF s.r).1 : Int) ≤ 4)⟩ (min (byteF s.r).1 4)
  have hle := numF_le M63 (valsF (byteF s.r).1 ⟨(byteF s.r).2, s.bad || !decide (((byteF s.r).1 : Int) ≤ 4)⟩ (min (byteF s.r).1 4)).2.r
  refine ⟨hc, getD_ok h 0, getD_ok h 1, getD_ok h 2, getD_ok h 3, ?_⟩
  show I64 ((numF M63 _).1 : Int)
  unfold I64 M63 at *
  omega
theorem partsF_ok (s : SC) (l : List Nat) (hl : ∀ c ∈ l, c < 32) : (∀ p ∈ (partsF s l).1, p.ok) ∧ (partsF s l).1.length ≤ l.length := by
  have key : ∀ (l : List Nat) (p : List Part × SC), (∀ c ∈ l, c < 32) → (∀ q ∈ p.1, q.ok) → (∀ q ∈ (l.foldl partsStep p).1, q.ok) ∧ (l.foldl partsStep p).1.length ≤ p.1.length + l.length := by
    intro l
    induction l with
    | nil => intro p _ hp; exact ⟨hp, by simp⟩
    | cons c l ih =>
      intro p hl hp
      have hc := hl c (by simp)
      have h2 := ih (partsStep p c) (fun c hc => hl c (by simp [hc])) (by
        intro q hq
        unfold partsStep at hq
        split at hq
        · exact hp q hq
        · rcases List.mem_append.1 hq with hq | hq
          · exact hp q hq
          · rw [List.mem_singleton.1 hq]
            exact partF_ok (by unfold I64; omega) _)
      refine ⟨h2.1, Nat.le_trans h2.2 ?_⟩
      have : (partsStep p c).1.length ≤ p.1.length + 1 := by unfold partsStep; split <;> simp
      simp only [List.length_cons]
      omega
  have := key l ([], s) hl (by simp)
  exact ⟨this.1, by simpa [partsF] using this.2⟩
theorem listF_lt (m : Nat) : ∀ c ∈ listF m, c < 32 := by
  intro c hc
  unfold listF at hc
  simpa using (List.mem_filter.1 hc).1

def BeInv (s2 : SC) (comps : List Nat) (id : Int) (bS bR b1 b7 : Nat) (w19 : World) (x : Value) (wr : World) : Prop :=
  ∃ (i : Nat) (pv : Value), i ≤ comps.length ∧ x = .int .i64 i ∧ ScAt wr bS bR (partsF s2 (comps.take i)).2 ∧ blk wr b7 = some (.cells #[.int .i64 id, pv] 85) ∧
    Own wr pv 6 ((partsF s2 (comps.take i)).1.flatMap Part.cells) ∧ (∀ k, vblk pv k → w19.heap.size ≤ k) ∧ blk wr b1 = some (.cells #[.int .i64 0, .slice none 0 0] 85) ∧ Mod (fun k => k = bS ∨ k = bR ∨ k = b7) w19 wr
set_option maxHeartbeats 1000000 in
theorem being_spec {w : World} (hd : DeAt w) {bS bR : Nat} (hdS : bS ≠ 6) (hdR : bR ≠ 6) {s : SC} (h : ScAt w bS bR s) (last : Int) (l0 : 0 ≤ last) (l1 : last ≤ 1125899906842624) :
    Meets Tryd.prog 41 #[.pointer (some ⟨bS, 0, none⟩), .int .i64 last] w fun v w' =>
      ∃ b : BV, v = .agg b.cells.toArray ∧ b.m = (beingF last s).1 ∧ b.ok w' ∧ ScTo w bS bR (beingF last s).2 w' ∧ ∀ k o, b.pa = some ⟨k, o, none⟩ → w.heap.size ≤ k ∧ k < w'.heap.size := by
  have hlt := h.lt
  refine f41_ok ?_
  unfold f41
  refine knew_of fun w2 h2 hs2 hb1 => ?_
  refine kcall_of (count_spec (h.same h2) 1073741824) ?_
  rintro v w4 ⟨rfl, h4, hs4⟩
  have hle := scCount_le (most := 1073741824) (by omega) s
  have hbF : beingF last s = (⟨last + (scCount 1073741824 s).1, (partsF ⟨(numF M32 (scCount 1073741824 s).2.r).2, (scCount 1073741824 s).2.bad || !decide ((numF M32 (scCount 1073741824 s).2.r).1 / 65536 = 0)⟩ (listF (numF M32 (scCount 1073741824 s).2.r).1)).1⟩, (partsF ⟨(numF M32 (scCount 1073741824 s).2.r).2, (scCount 1073741824 s).2.bad || !decide ((numF M32 (scCount 1073741824 s).2.r).1 / 65536 = 0)⟩ (listF (numF M32 (scCount 1073741824 s).2.r).1)).2) := rfl
  generalize (scCount 1073741824 s) = C at *
  rw [kint_add, wrap_i64 (by omega) (by omega)]
  have hid : I64 (last + (C.1 : Int)) := by unfold I64; omega
  generalize last + (C.1 : Int) = id at *
  refine kbld_of (cs := [.int .i64 id, .slice none 0 0]) rfl ?_
  refine knew_of fun w8 h8 hs8 hb7 => ?_
  refine kst_of (vs := [.int .i64 id, .slice none 0 0]) hb7 rfl rfl rfl (by simp) (by simp) fun w9 h9 hs9 hb9 => ?_
  have hb9 : blk w9 w4.heap.size = some (.cells #[.int .i64 id, .slice none 0 0] 85) := hb9
  have ne1 : ¬ (w.heap.size = bS ∨ w.heap.size = bR) := by omega
  have ne7 : ¬ (w4.heap.size = bS ∨ w4.heap.size = bR) := by have := h2.size; omega
  have hb1 := h9.get (h8.get (h4.2.get hb1 ne1) (fun h => h)) (fun h => by omega)
  have m89 : Same w4 w9 := Mod.after h8 h9 (fun b hb => by omega)
  have h9s := h4.1.same m89
  have m9 : Mod (fun k => k = bS ∨ k = bR) w w9 := ((Mod.of_same h2).trans h4.2).trans (Mod.of_same m89)
  rw [kN_ptr]
  refine kfld_of ?_
  refine kld_of (v := .pointer (some ⟨bR, 0, none⟩)) h9s.1 rfl ?_
  refine kcall_of (BitsR_spec h9s.2.1 h9s.2.2.2) ?_
  rintro v w13 ⟨rfl, h13⟩
  have h13' := h9s.rd h13 (numF_len _ _)
  have hm32 := numF_le M32 C.2.r
  rw [show (4294967295 : Nat) = M32 from rfl] at *
  rw [msk, kint_shr]
  refine kG_of (by omega) ?_
  rw [show (16 : Int) = ((16 : Nat) : Int) from rfl, shr_nat _ 16 (by decide), kint_eql]
  refine kcall_of (refuse_spec h13'.1 _) ?_
  rintro v w17 ⟨h17, hs17⟩
  have hdec : (decide ((((numF M32 C.2.r).1 / 2 ^ 16 : Nat) : Int) = 0)) = decide ((numF M32 C.2.r).1 / 65536 = 0) := by
    simp only [decide_eq_decide]; omega
  rw [hdec] at h17
  have m17 : Mod (fun k => k = bS ∨ k = bR) w w17 := (m9.trans h13'.2).trans h17.2
  have hb1 := h17.2.get (h13'.2.get hb1 ne1) ne1
  have hb7 := h17.2.get (h13'.2.get hb9 ne7) ne7
  have h17s := h17.1
  rw [hbF]
  generalize hM : (numF M32 C.2.r) = M at *
  generalize hs2e : (⟨M.2, C.2.bad || !decide (M.1 / 65536 = 0)⟩ : SC) = s2 at *
  have hM32 : M.1 < 4294967296 := by unfold M32 at hm32; omega
  have hd17 : DeAt w17 := hd.mod m17 (fun h => by omega)
  refine kcall_of (List_spec hd17 M.1 hM32) ?_
  rintro v w19 ⟨a, c, rfl, hsl, h19, hfresh⟩
  have hll := listF_len M.1
  have hlt32 := listF_lt M.1
  generalize listF M.1 = comps at *
  rw [klen_slice]
  have hb1 := h19.get hb1 (fun h => h)
  have hb7 := h19.get hb7 (fun h => h)
  have sz17 : w9.heap.size ≤ w17.heap.size := Nat.le_trans h13'.2.size h17.2.size
  have lt7 : w4.heap.size < w17.heap.size := by have := h8.size; omega
  have lt1 : w.heap.size < w4.heap.size := by have := h4.2.size; omega
  refine kL_of (BeInv s2 comps id bS bR w.heap.size w4.heap.size w19) (fun x _ => comps.length - (RowKit.intOf x).toNat)
    ⟨⟨0, _, by omega, rfl, by rw [List.take_zero]; exact h17s.same h19, hb7, Own.nil _ _, fun k hk => (by obtain ⟨_, _, _, e⟩ := hk; cases e), hb1, Mod.refl _ _⟩, ?_⟩
  rintro x wr ⟨i, pv, hi, rfl, hsc, hb7r, hown, hfr, hb1r, hm⟩
  have hslr : SlIs wr a comps.length 1 (comps.map natV) := hsl.mod hm (fun k o e => by
    have := hfresh k o e
    have := h4.2.size
    omega)
  unfold f41_0
  rw [kint_lss, kB_bool]
  refine kIf_dec (fun hlt2 => ?_) (fun hge => ?_)
  · have hlt2 : i < comps.length := by omega
    have htk : comps.take (i + 1) = comps.take i ++ [comps[i]] := List.take_succ_eq_append_getElem hlt2
    have hsn := partsF_snoc s2 (comps.take i) comps[i]
    rw [← htk] at hsn
    have hlen := (partsF_ok s2 (comps.take i) (fun c hc => hlt32 c (List.mem_of_mem_take hc))).2
    rw [List.length_take] at hlen
    unfold f41_1
    refine kixld_of (F := natV) hslr hlt2 rfl ?_
    rw [kN_ptr]
    refine kfld_of ?_
    refine kld_of (v := .bool (partsF s2 (comps.take i)).2.bad) hsc.1 rfl ?_
    rw [kun_not, kB_bool]
    generalize comps[i] = cp at *
    generalize hP : (partsF s2 (comps.take i)) = P at *
    refine kIf_of (fun hb => ?_) (fun hb => ?_)
    · have hb : P.2.bad = false := by simpa using hb
      unfold partsStep at hsn
      rw [if_neg (by rw [hb]; decide)] at hsn
      have hscd : ScAt wr.drew bS bR P.2 := hsc.same ((Mod.refl _ _).drew)
      refine kfld_of ?_
      refine kld_of (v := pv) (show blk wr.drew _ = _ from hb7r) rfl ?_
      refine kG_of rfl ?_
      refine kcall_of (part_spec hscd cp) ?_
      rintro v w31 ⟨rfl, h31⟩
      have h31m : Mod (fun k => k = bS ∨ k = bR) wr w31 := ((Mod.refl _ _).drew).trans h31.2
      have hb7a := h31m.get hb7r ne7
      have hb1a := h31m.get hb1r ne1
      have hown31 : Own w31 pv 6 (P.1.flatMap Part.cells) := hown.mod h31m (fun k hk e => by have := hfr k hk; have := h19.size; omega)
      refine kG_of (kld_of (v := pv) hb7a rfl ⟨rfl, rfl⟩) ?_
      refine kbldS_of (cs := (partF cp P.2).1.cells) rfl fun w33 h33 hs33 hb33 => ?_
      have hb7b := h33.get hb7a (fun h => h)
      refine kG_of (kld_of (v := pv) hb7b rfl ⟨rfl, rfl⟩) ?_
      have hfl := flat_len Part.cells 6 (fun _ => rfl) P.1
      have h6 : ((partF cp P.2).1.cells.toArray.toList).length = 6 := rfl
      refine ksem_append apPart (by omega) (hown31.same h33) (Src.ofSlIs (hk := slPart_is.choose_spec) 1 (SlIs.blk hb33 rfl) rfl) (by omega) (by omega) ?_
      intro v' w35 ho35 hm35 hf35
      have hb7c := hm35.get hb7b (fun hk => by have := hfr _ hk; have := h19.size; omega)
      refine kfld_of ?_
      refine kst_of (vs := [v']) hb7c ?_ rfl ?_ (by simp) (by simp) fun w37 h37 hs37 hb37 => ?_
      · obtain ⟨_, _, _, rfl, _⟩ := ho35; rfl
      · obtain ⟨_, _, _, rfl, _⟩ := ho35; rfl
      unfold f41_2
      rw [kint_add, i64_succ (by omega)]
      have hsz31 := h31m.size
      have hsz33 := h33.size
      have hszm := hm.size
      have vne : ∀ k, vblk v' k → w19.heap.size ≤ k := fun k hk => by
        rcases hf35 k hk with h | h
        · exact hfr k h
        · omega
      have hsz19 := h19.size
      refine ⟨⟨i + 1, v', by omega, rfl, ?_, hb37, ?_, vne, ?_, ?_⟩, by simp [RowKit.intOf]; omega⟩
      · rw [hsn]
        refine (((h31.1.same h33).mod hm35 (fun hk => ?_) (fun hk => ?_)).mod h37 (fun e => ?_) (fun e => ?_))
        · have := hfr _ hk; omega
        · have := hfr _ hk; omega
        · omega
        · omega
      · rw [hsn]
        have : Own w37 v' 6 (P.1.flatMap Part.cells ++ (partF cp P.2).1.cells) := ho35.mod h37 (fun k hk e => by have := vne k hk; omega)
        simpa using this
      · exact h37.get (hm35.get (h33.get hb1a (fun h => h)) (fun hk => by have := hfr _ hk; omega)) (fun e => by omega)
      · have e1 : Mod (fun k => k = bS ∨ k = bR ∨ k = w4.heap.size) wr w31 := h31m.mono fun k _ e => by omega
        refine (((hm.trans e1).trans (Mod.of_same h33)).trans' (hm35.mono fun k _ e => .inr (hfr k e))).trans (h37.mono fun k _ e => .inr (.inr e))
    · have hb : P.2.bad = true := by simpa using hb
      unfold partsStep at hsn
      rw [if_pos hb] at hsn
      unfold f41_2
      rw [kint_add, i64_succ (by omega)]
      exact ⟨⟨i + 1, pv, by omega, rfl, by rw [hsn]; exact hsc, hb7r, by rw [hsn]; exact hown, hfr, hb1r, hm⟩, by simp [RowKit.intOf]; omega⟩
  · have : i = comps.length := by omega
    subst this
    rw [List.take_length] at hsc hown
    have hpok := partsF_ok s2 comps hlt32
    generalize hP : partsF s2 comps = P at *
    have hsz19 := h19.size
    obtain ⟨pa, n, pc, rfl, hs1, _⟩ := hown.is
    have hn : n = P.1.length := by have := hs1.1; rw [flat_len Part.cells 6 (fun _ => rfl)] at this; omega
    subst hn
    unfold f41_3
    refine kldN_of (cs := [.int .i64 id, .slice pa P.1.length pc]) hb7r (by simp) rfl (by omega) ?_
    refine kst_of (vs := [.int .i64 id, .slice pa P.1.length pc]) hb1r rfl rfl rfl (by simp) (by simp) fun w43 h43 hs43 hb43 => ?_
    have hb43 : blk w43 w.heap.size = some (.cells #[.int .i64 id, .slice pa P.1.length pc] 85) := hb43
    refine kldN_of (cs := [.int .i64 id, .slice pa P.1.length pc]) hb43 (by simp) rfl (by omega) ?_
    have hpa : ∀ k o, pa = some ⟨k, o, none⟩ → w19.heap.size ≤ k := fun k o e => hfr k ⟨o, _, _, by rw [e]⟩
    have hpl : ∀ k o, pa = some ⟨k, o, none⟩ → k < wr.heap.size := fun k o e => hown.vblk_lt ⟨o, _, _, by rw [e]⟩
    refine ⟨⟨id, pa, pc, P.1⟩, rfl, rfl, ⟨hid, hpok.1, ?_⟩, ⟨hsc.mod h43 (fun e => by omega) (fun e => by omega), ?_⟩, fun k o e => ?_⟩
    · exact hs1.mod h43 (fun k o e e2 => by have := hpa k o e; omega)
    · refine Mod.trans' ?_ (h43.mono fun k _ e => .inr (by omega))
      refine ((m17.trans (Mod.of_same h19)).trans' (hm.mono fun k _ e => ?_))
      rcases e with e | e | e
      · exact .inl (.inl e)
      · exact .inl (.inr e)
      · exact .inr (by omega)
    · have := hpa k o e; have := hpl k o e; omega
end Go.Proofs.YtcabkicjboedaaaDoor
end
section
namespace Go.Proofs.YtcabkicjboedaaaDoor
open Go Go.Ev
set_option linter.unusedVariables false
set_option linter.unusedSimpArgs false
set_option maxRecDepth 100000

theorem apBeing : appT Tryd.prog 52 2 32 = true := by kernel_rfl
theorem slBeing_is : ∃ e, Tryd.prog.underlying 52 = some (.slice e) := slT_of (by kernel_rfl)
def resF (s : SC) : Nat → List Int × SC
  | 0 => ([], s)
  | i + 1 => ((resF s i).1 ++ [unzz (numF M64 (resF s i).2.r).1], ⟨(numF M64 (resF s i).2.r).2, (resF s i).2.bad⟩)
def bgsF (s : SC) : Nat → (List BM × Int) × SC
  | 0 => (([], 0), s)
  | i + 1 => (((bgsF s i).1.1 ++ [(beingF (bgsF s i).1.2 (bgsF s i).2).1], (beingF (bgsF s i).1.2 (bgsF s i).2).1.id), (beingF (bgsF s i).1.2 (bgsF s i).2).2)
def head3 (l : List UInt8) : (Int × Int × Int) × SC :=
  let a := numF M63 ⟨l, false⟩
  let b := numF M63 a.2
  let c := numF M64 b.2
  ((a.1, b.1, unzz c.1), ⟨c.2, !decide (l.length ≤ 32768)⟩)
def tailF (s0 : SC) : (List Int × List BM) × SC :=
  let k := scCount 8 s0
  let p := resF k.2 k.1
  let n := scCount 64 p.2
  let q := bgsF n.2 n.1
  ((p.1, q.1.1), q.2)
def readF (l : List UInt8) : SM × SC :=
  let h := head3 l
  let t := tailF h.2
  (⟨h.1.1, h.1.2.1, h.1.2.2, t.1.2, t.1.1⟩, t.2)
def okEnd (m : SM) (s : SC) : Bool := !s.bad && (!s.r.bad && (decide (s.r.rest = []) && goodF m))
theorem resF_len (s : SC) : ∀ i, (resF s i).1.length = i
  | 0 => rfl
  | i + 1 => by simp [resF, resF_len s i]
theorem bgsF_len (s : SC) : ∀ i, (bgsF s i).1.1.length = i
  | 0 => rfl
  | i + 1 => by simp [bgsF, bgsF_len s i]
theorem resF_ok (s : SC) : ∀ i, ∀ z ∈ (resF s i).1, I64 z
  | 0, z, h => by cases h
  | i + 1, z, h => by
    rcases List.mem_append.1 h with h | h
    · exact resF_ok s i z h
    · rw [List.mem_singleton.1 h]
      have := numF_le M64 (resF s i).2.r
      exact unzz_i64 (by unfold M64 at this ⊢; omega)
theorem bgsF_last (s : SC) : ∀ i, 0 ≤ (bgsF s i).1.2 ∧ (bgsF s i).1.2 ≤ 1073741824 * i
  | 0 => by simp [bgsF]
  | i + 1 => by
    have h := bgsF_last s i
    have hle := scCount_le (most := 1073741824) (by omega) (bgsF s i).2
    have e : (bgsF s (i + 1)).1.2 = (bgsF s i).1.2 + (scCount 1073741824 (bgsF s i).2).1 := rfl
    rw [e]
    omega
theorem partsF_len (s : SC) (m : Nat) : (partsF s (listF m)).1.length ≤ 32 := by
  have h1 := (partsF_ok s (listF m) (listF_lt m)).2
  have h2 := listF_len m
  omega

/-- What Read hands back. -/
def ReadPost (S : Nat → Addr) (m : SM) (ok : Bool) (w : World) (v : Value) (w' : World) : Prop :=
  Same w w' ∧ ((ok = true ∧ ∃ sv : SV, v = .tuple #[sv.val, .nilIface] ∧ sv.m = m ∧ sv.ok w' ∧ ∀ b ∈ sv.bl, b.parts.length ≤ 32) ∨
    (ok = false ∧ ∃ b wh, v = .tuple #[.agg #[.int .i64 0, .int .i64 0, .int .i64 0, .slice none 0 0, .slice none 0 0], .iface 120 (.pointer (some ⟨b, 0, none⟩))] ∧ blk w' b = some (.cells #[.string wh, errV S 3] 123)))

def ResInv (fr nx sd : Int) (k : Nat × SC) (w w28 : World) (bX bS bR bSt : Nat) (x : Value) (wr : World) : Prop :=
  ∃ (i : Nat) (rv : Value), i ≤ k.1 ∧ x = .int .i64 i ∧ ScAt wr bS bR (resF k.2 i).2 ∧ blk wr bSt = some (.cells #[.int .i64 fr, .int .i64 nx, .int .i64 sd, .slice none 0 0, rv] 55) ∧
    Own wr rv 1 ((resF k.2 i).1.map intV) ∧ (∀ j, vblk rv j → w28.heap.size ≤ j) ∧ blk wr bX = some (.cells #[.int .i64 0, .int .i64 0, .int .i64 0, .slice none 0 0, .slice none 0 0] 55) ∧ Same w wr ∧ w28.heap.size ≤ wr.heap.size
def BgsMem (wr : World) (wl : World) (bl : List BV) (bv : Value) : Prop :=
  (∀ b ∈ bl, b.ok wr) ∧ Own wr bv 2 (bl.flatMap BV.cells) ∧ (∀ j, vblk bv j → wl.heap.size ≤ j) ∧ (∀ b ∈ bl, ∀ j o, b.pa = some ⟨j, o, none⟩ → wl.heap.size ≤ j ∧ j < wr.heap.size ∧ ¬ vblk bv j) ∧ ∀ b ∈ bl, b.parts.length ≤ 32
def BsInv (fr nx sd : Int) (rv : Value) (rl : List Int) (k : Nat × SC) (w wl : World) (bX bS bR bSt : Nat) (x6 x : Value) (wr : World) : Prop :=
  ∃ (i : Nat) (bl : List BV) (bv : Value), i ≤ k.1 ∧ x = .int .i64 i ∧ x6 = .int .i64 (bgsF k.2 i).1.2 ∧ ScAt wr bS bR (bgsF k.2 i).2 ∧ blk wr bSt = some (.cells #[.int .i64 fr, .int .i64 nx, .int .i64 sd, bv, rv] 55) ∧
    bl.map BV.m = (bgsF k.2 i).1.1 ∧ BgsMem wr wl bl bv ∧ Own wr rv 1 (rl.map intV) ∧ blk wr bX = some (.cells #[.int .i64 0, .int .i64 0, .int .i64 0, .slice none 0 0, .slice none 0 0] 55) ∧ Same w wr ∧ wl.heap.size ≤ wr.heap.size
/-- The four blocks of a run of Read, all new and all different. -/
structure RdBlks (w w28 : World) (bX bS bR bSt : Nat) : Prop where
  x : w.heap.size ≤ bX ∧ bX < w28.heap.size
  s : w.heap.size ≤ bS ∧ bS < w28.heap.size
  r : w.heap.size ≤ bR ∧ bR < w28.heap.size
  t : w.heap.size ≤ bSt ∧ bSt < w28.heap.size
  ne : bX ≠ bS ∧ bX ≠ bR ∧ bX ≠ bSt ∧ bS ≠ bR ∧ bS ≠ bSt ∧ bR ≠ bSt
theorem own_one {w : World} {v : Value} {sz : Nat} {vs : List Value} (h : Own w v sz vs) : v.cells.toList = [v] ∧ v.oneCell' = true := by
  obtain ⟨_, _, _, rfl, _⟩ := h; exact ⟨rfl, rfl⟩

theorem readEnd {S : Nat → Addr} {w wr : World} (hL : LaidN 4 S w) {bX bS bR bSt : Nat} {w28 : World} (hB : RdBlks w w28 bX bS bR bSt) (sv : SV) (hok : sv.ok wr) (hp : ∀ b ∈ sv.bl, b.parts.length ≤ 32)
    (hfr : ∀ j o, sv.ba = some ⟨j, o, none⟩ → j ≠ bX) (hfr2 : ∀ j o, sv.ra = some ⟨j, o, none⟩ → j ≠ bX) (hfr3 : ∀ b ∈ sv.bl, ∀ j o, b.pa = some ⟨j, o, none⟩ → j ≠ bX)
    (hm : Same w wr) (hsz : w28.heap.size ≤ wr.heap.size) {s : SC} (hsc : ScAt wr bS bR s) (hbSt : blk wr bSt = some (.cells sv.cells.toArray 55)) (hbX : blk wr bX = some (.cells #[.int .i64 0, .int .i64 0, .int .i64 0, .slice none 0 0, .slice none 0 0] 55)) :
    f16_8 (.pointer (some ⟨bX, 0, none⟩)) (.pointer (some ⟨bS, 0, none⟩)) (.pointer (some ⟨bSt, 0, none⟩)) (ReadPost S sv.m (okEnd sv.m s) w) wr := by
  have bad : okEnd sv.m s = false → ∀ w9, Same wr w9 → f16_9 (.pointer (some ⟨bX, 0, none⟩)) (.pointer (some ⟨bSt, 0, none⟩)) (.bool true) (ReadPost S sv.m (okEnd sv.m s) w) w9 := by
    intro h w9 h9
    unfold f16_9
    rw [kB_bool, kIf_true]
    refine kbld_of (cs := [.int .i64 0, .int .i64 0, .int .i64 0, .slice none 0 0, .slice none 0 0]) rfl ?_
    refine kld_err (hL.same (hm.trans h9)) (k := 3) (by omega) (by omega) rfl rfl ?_
    refine kcall_of (wrong_spec _ _ w9) ?_
    rintro v w84 ⟨rfl, ⟨wh, hbb⟩, h84⟩
    have hbx := h84.get (h9.get hbX (fun h => h)) (fun h => h)
    refine kst_of (vs := [.int .i64 0, .int .i64 0, .int .i64 0, .slice none 0 0, .slice none 0 0]) hbx rfl rfl rfl (by simp) (by simp) fun w85 h85 hs85 hb85 => ?_
    have hb85 : blk w85 bX = some (.cells #[.int .i64 0, .int .i64 0, .int .i64 0, .slice none 0 0, .slice none 0 0] 55) := hb85
    refine kldN_of (cs := [.int .i64 0, .int .i64 0, .int .i64 0, .slice none 0 0, .slice none 0 0]) hb85 (by simp) rfl (by omega) ?_
    refine ⟨Mod.after ((hm.trans h9).trans h84) h85 (fun b hb => by have := hB.x; omega), .inr ⟨h, _, wh, rfl, h85.get hbb (fun e => ?_)⟩⟩
    have := h9.size; have := hB.x; omega
  unfold f16_8
  rw [kN_ptr]
  refine kfld_of ?_
  refine kld_of (v := .bool s.bad) hsc.1 rfl ?_
  rw [kB_bool]
  refine kIf_of (fun h1 => ?_) (fun h1 => bad (by unfold okEnd; rw [show s.bad = true by simpa using h1]; rfl) wr (Mod.refl _ _))
  have h1 : s.bad = false := by simpa using h1
  rw [kN_ptr]
  refine kfld_of ?_
  refine kld_of (v := .pointer (some ⟨bR, 0, none⟩)) hsc.1 rfl ?_
  refine kcall_of (End_spec (hL.same hm) hsc.2.1) ?_
  rintro v w73 ⟨h73, he⟩
  rcases he with ⟨e1, e2, rfl⟩ | ⟨e1, t, x, rfl⟩
  rotate_left
  · rw [keq_if_nil' ifErr, kB_bool, Bool.not_true, kIf_false]
    refine bad ?_ w73 h73
    unfold okEnd
    rcases e1 with e1 | e1
    · rw [e1]; simp
    · rw [decide_eq_false e1]; simp
  rw [keq_nil_nil' ifErr, kB_bool, Bool.not_false, kIf_true]
  refine kldN_of (cs := sv.cells) (h73.get hbSt (fun h => h)) (by simp [SV.cells]) rfl (by omega) ?_
  refine kcall_of (Good_spec sv (hok.same h73) (fun b hb => by have := hp b hb; omega)) ?_
  rintro v w79 ⟨rfl, h79⟩
  have h79' := h73.trans h79
  rw [kun_not]
  cases hg : goodF sv.m with
  | false => exact bad (by unfold okEnd; rw [hg]; simp) w79 h79'
  | true =>
    have hok1 : okEnd sv.m s = true := by unfold okEnd; rw [h1, e1, decide_eq_true e2, hg]; rfl
    rw [hok1]
    unfold f16_9
    rw [Bool.not_true, kB_bool, kIf_false]
    unfold f16_10
    refine kldN_of (cs := sv.cells) (h79'.get hbSt (fun h => h)) (by simp [SV.cells]) rfl (by omega) ?_
    refine kst_of (vs := sv.cells) (h79'.get hbX (fun h => h)) rfl rfl rfl (by simp) (by simp [SV.cells]) fun w88 h88 hs88 hb88 => ?_
    have hb88 : blk w88 bX = some (.cells sv.cells.toArray 55) := hb88
    refine kldN_of (cs := sv.cells) hb88 (by simp [SV.cells]) rfl (by omega) ?_
    obtain ⟨k1, k2, k3, k4, k5, k6, k7⟩ := hok.same h79'
    refine ⟨Mod.after (hm.trans h79') h88 (fun b hb => by have := hB.x; omega), .inl ⟨rfl, sv, rfl, rfl, ⟨k1, k2, k3, k4, fun b hb => ?_, k6.mod h88 (fun j o e e2 => hfr j o e e2), k7.mod h88 (fun j o e e2 => hfr2 j o e e2)⟩, hp⟩⟩
    obtain ⟨q1, q2, q3⟩ := k5 b hb
    exact ⟨q1, q2, q3.mod h88 (fun j o e e2 => hfr3 b hb j o e e2)⟩

set_option maxHeartbeats 1000000 in
theorem read0 {S : Nat → Addr} {w w28 : World} (hL : LaidN 4 S w) (hd : DeAt w) {bX bS bR bSt : Nat} (hB : RdBlks w w28 bX bS bR bSt) (fr nx sd : Int) (h1 : I64 fr) (h2 : I64 nx) (h3 : I64 sd) {s0 : SC}
    (hm28 : Same w w28) (hsc0 : ScAt w28 bS bR s0) (hbSt0 : blk w28 bSt = some (.cells #[.int .i64 fr, .int .i64 nx, .int .i64 sd, .slice none 0 0, .slice none 0 0] 55))
    (hbX0 : blk w28 bX = some (.cells #[.int .i64 0, .int .i64 0, .int .i64 0, .slice none 0 0, .slice none 0 0] 55)) :
    f16_0 (.pointer (some ⟨bX, 0, none⟩)) (.pointer (some ⟨bS, 0, none⟩)) (.pointer (some ⟨bSt, 0, none⟩))
      (ReadPost S ⟨fr, nx, sd, (tailF s0).1.2, (tailF s0).1.1⟩ (okEnd ⟨fr, nx, sd, (tailF s0).1.2, (tailF s0).1.1⟩ (tailF s0).2) w) w28 := by
  obtain ⟨n1, n2, n3, n4, n5, n6⟩ := hB.ne
  obtain ⟨bx1, bx2⟩ := hB.x
  obtain ⟨bs1, bs2⟩ := hB.s
  obtain ⟨br1, br2⟩ := hB.r
  obtain ⟨bt1, bt2⟩ := hB.t
  have hdlt := hd.lt
  unfold f16_0
  refine kcall_of (count_spec hsc0 8) ?_
  rintro v w30 ⟨rfl, h30, hs30⟩
  have hk8 := scCount_le (most := 8) (by omega) s0
  have hT : tailF s0 = (((resF (scCount 8 s0).2 (scCount 8 s0).1).1, (bgsF (scCount 64 (resF (scCount 8 s0).2 (scCount 8 s0).1).2).2 (scCount 64 (resF (scCount 8 s0).2 (scCount 8 s0).1).2).1).1.1), (bgsF (scCount 64 (resF (scCount 8 s0).2 (scCount 8 s0).1).2).2 (scCount 64 (resF (scCount 8 s0).2 (scCount 8 s0).1).2).1).2) := rfl
  generalize scCount 8 s0 = k at *
  have m30 : Same w w30 := Mod.after hm28 h30.2 (fun b hb => by omega)
  refine kL_of (ResInv fr nx sd k w w28 bX bS bR bSt) (fun x _ => k.1 - (RowKit.intOf x).toNat)
    ⟨⟨0, .slice none 0 0, by omega, rfl, h30.1, h30.2.get hbSt0 (fun e => by omega), Own.nil _ _, fun j hj => (by obtain ⟨_, _, _, e⟩ := hj; cases e), h30.2.get hbX0 (fun e => by omega), m30, by omega⟩, ?_⟩
  rintro x wr ⟨i, rv, hi, rfl, hsc, hbSt, hown, hfr, hbX, hm, hsz⟩
  unfold f16_1
  rw [kint_lss, kB_bool]
  refine kIf_dec (fun hlt => ?_) (fun hge => ?_)
  · have hlt : i < k.1 := by omega
    have hrl := resF_len k.2 i
    unfold f16_2
    refine kfld_of ?_
    refine kld_of (v := rv) (show blk wr.drew _ = _ from hbSt) rfl ?_
    refine kG_of rfl ?_
    rw [kN_ptr]
    refine kfld_of ?_
    refine kld_of (v := .pointer (some ⟨bR, 0, none⟩)) (show blk wr.drew _ = _ from hsc.1) rfl ?_
    refine kG_of rfl ?_
    have hscd : ScAt wr.drew bS bR (resF k.2 i).2 := hsc.same ((Mod.refl _ _).drew)
    refine kcall_of (Num_spec hscd.2.1 hscd.2.2.2) ?_
    rintro v w37 ⟨rfl, h37⟩
    have h37' := hscd.rd h37 (numF_len _ _)
    have h37m : Mod (fun k => k = bS ∨ k = bR) wr w37 := ((Mod.refl _ _).drew).trans h37'.2
    have hb37 := h37m.get hbSt (fun e => by omega)
    refine kG_of (kld_of (v := rv) hb37 rfl ⟨rfl, rfl⟩) ?_
    refine kbldS_of (cs := [intV (unzz (numF 18446744073709551615 (resF k.2 i).2.r).1)]) rfl fun w39 h39 hs39 hb39 => ?_
    have hb39s := h39.get hb37 (fun h => h)
    refine kG_of (kld_of (v := rv) hb39s rfl ⟨rfl, rfl⟩) ?_
    have hown37 : Own w37 rv 1 ((resF k.2 i).1.map intV) := hown.mod h37m (fun j hj e => by have := hfr j hj; omega)
    have hl8 : ((resF k.2 i).1.map intV).length ≤ 8 := by rw [List.length_map]; omega
    refine ksem_append apInt (by omega) (hown37.same h39) (Src.ofSlIs (hk := slInt_is.choose_spec) 1 (SlIs.blk hb39 rfl) rfl) (by simp; omega) (by simp; omega) ?_
    intro v' w41 ho41 hm41 hf41
    have hb41 := hm41.get hb39s (fun hj => by have := hfr _ hj; omega)
    refine kfld_of ?_
    refine kst_of (vs := [v']) hb41 (own_one ho41).1 rfl (by rw [oneCells, (own_one ho41).2]; rfl) (by simp) (by simp) fun w43 h43 hs43 hb43 => ?_
    unfold f16_3
    rw [kint_add, i64_succ (by omega)]
    have z37 := h37m.size
    have z39 := h39.size
    have z41 := hm41.size
    have vne : ∀ j, vblk v' j → w28.heap.size ≤ j := fun j hj => by
      rcases hf41 j hj with h | h
      · exact hfr j h
      · omega
    refine ⟨⟨i + 1, v', by omega, rfl, ?_, hb43, ?_, vne, ?_, ?_, by omega⟩, by simp [RowKit.intOf]; omega⟩
    · refine ((h37'.1.same h39).mod hm41 (fun hj => ?_) (fun hj => ?_)).mod h43 (fun e => by omega) (fun e => by omega)
      · have := hfr _ hj; omega
      · have := hfr _ hj; omega
    · have : Own w43 v' 1 ((resF k.2 i).1.map intV ++ [intV (unzz (numF 18446744073709551615 (resF k.2 i).2.r).1)]) := ho41.mod h43 (fun j hj e => by have := vne j hj; omega)
      rw [resF, List.map_append]
      exact this
    · exact h43.get (hm41.get (h39.get (h37m.get hbX (fun e => by omega)) (fun h => h)) (fun hj => by have := hfr _ hj; omega)) (fun e => by omega)
    · exact Mod.after (Mod.after ((Mod.after hm h37m (fun b hb => by omega)).trans h39) hm41 (fun b hb => by have := hfr b hb; omega)) h43 (fun b hb => by omega)
  · have : i = k.1 := by omega
    subst this
    have hrok := resF_ok k.2 k.1
    have hrlen := resF_len k.2 k.1
    generalize hRes : resF k.2 k.1 = Res at *
    unfold f16_4
    refine kcall_of (count_spec hsc 64) ?_
    rintro v w48 ⟨rfl, h48, hs48⟩
    have hk64 := scCount_le (most := 64) (by omega) Res.2
    generalize scCount 64 Res.2 = k2 at *
    have hrvlt : ∀ j, vblk rv j → j < w48.heap.size := fun j hj => by have := hown.vblk_lt hj; omega
    have hown48 : Own w48 rv 1 (Res.1.map intV) := hown.mod h48.2 (fun j hj e => by have := hfr j hj; omega)
    refine kL_of (BsInv fr nx sd rv Res.1 k2 w w48 bX bS bR bSt) (fun _ x _ => k2.1 - (RowKit.intOf x).toNat)
      ⟨⟨0, [], .slice none 0 0, by omega, rfl, rfl, h48.1, h48.2.get hbSt (fun e => by omega), rfl, ⟨by simp, Own.nil _ _, fun j hj => (by obtain ⟨_, _, _, e⟩ := hj; cases e), by simp, by simp⟩, hown48, h48.2.get hbX (fun e => by omega), Mod.after hm h48.2 (fun b hb => by omega), by omega⟩, ?_⟩
    clear hbSt hbX hsc hown hown48
    rintro x6 x wl ⟨j, bl, bv, hj, rfl, rfl, hsc, hbSt, hbl, ⟨hbok, hbown, hbfr, hbdis, hb32⟩, hown, hbX, hml, hszl⟩
    unfold f16_5
    rw [kint_lss, kB_bool]
    refine kIf_dec (fun hlt => ?_) (fun hge => ?_)
    · have hlt : j < k2.1 := by omega
      have hlast := bgsF_last k2.2 j
      have hbll : bl.length = j := by rw [← List.length_map (f := BV.m), hbl, bgsF_len]
      have hmul : (1073741824 : Int) * j ≤ 1125899906842624 := by omega
      unfold f16_6
      refine kcall_of (being_spec (hd.same hml) (by omega) (by omega) hsc (bgsF k2.2 j).1.2 hlast.1 (by omega)) ?_
      rintro v w51 ⟨b, rfl, hbm, hbo, h51, hbfresh⟩
      have hb51 := h51.2.get hbSt (fun e => by omega)
      have hbx51 := h51.2.get hbX (fun e => by omega)
      have hown51 := hown.mod h51.2 (fun q hq e => by have := hfr q hq; omega)
      have hbown51 := hbown.mod h51.2 (fun q hq e => by have := hbfr q hq; omega)
      have hbok51 : ∀ q ∈ bl, q.ok w51 := fun q hq => ⟨(hbok q hq).1, (hbok q hq).2.1, (hbok q hq).2.2.mod h51.2 (fun y o e e2 => by have := (hbdis q hq y o e).1; omega)⟩
      refine knew_of fun w53 h53 hs53 hb53 => ?_
      refine kst_of (vs := b.cells) hb53 rfl rfl rfl (by simp) (by simp [BV.cells]) fun w54 h54 hs54 hb54 => ?_
      have hb54 : blk w54 w51.heap.size = some (.cells b.cells.toArray 85) := hb54
      have h54' : Same w51 w54 := Mod.after h53 h54 (fun q hq => by omega)
      refine kfld_of ?_
      refine kld_of (v := bv) (h54'.get hb51 (fun h => h)) rfl ?_
      refine kldN_of (cs := b.cells) hb54 (by simp [BV.cells]) rfl (by omega) ?_
      refine kbldS_of (cs := b.cells) rfl fun w59 h59 hs59 hb59 => ?_
      have h59' := h54'.trans h59
      have hfl := flat_len BV.cells 2 (fun _ => rfl) bl
      have hb2 : (b.cells.toArray.toList).length = 2 := rfl
      refine ksem_append apBeing (by omega) (hbown51.same h59') (Src.ofSlIs (hk := slBeing_is.choose_spec) 1 (SlIs.blk hb59 rfl) rfl) (by omega) (by omega) ?_
      intro v' w61 ho61 hm61 hf61
      have hb61 := hm61.get (h59'.get hb51 (fun h => h)) (fun hq => by have := hbfr _ hq; omega)
      refine kfld_of ?_
      refine kst_of (vs := [v']) hb61 (own_one ho61).1 rfl (by rw [oneCells, (own_one ho61).2]; rfl) (by simp) (by simp) fun w63 h63 hs63 hb63 => ?_
      have z51 := h51.2.size
      have z54 := h54'.size
      have z59 := h59.size
      have z61 := hm61.size
      have hb63b : blk w63 w51.heap.size = some (.cells b.cells.toArray 85) := h63.get (hm61.get (h59.get hb54 (fun h => h)) (fun hq => by have := hbown51.vblk_lt hq; omega)) (fun e => by omega)
      refine kfld_of ?_
      refine kld_of (v := .int .i64 b.id) hb63b rfl ?_
      unfold f16_7
      rw [kint_add, i64_succ (by omega)]
      have vne : ∀ q, vblk v' q → w48.heap.size ≤ q := fun q hq => by
        rcases hf61 q hq with h | h
        · exact hbfr q h
        · omega
      have bid : b.id = (beingF (bgsF k2.2 j).1.2 (bgsF k2.2 j).2).1.id := by rw [← hbm]; rfl
      have h63s : Same w51 w59 := h59'
      refine ⟨⟨j + 1, bl ++ [b], v', by omega, rfl, ?_, ?_, hb63, ?_, ⟨?_, ?_, vne, ?_, ?_⟩, ?_, ?_, ?_, by omega⟩, by simp [RowKit.intOf]; omega⟩
      · rw [bgsF, ← bid]
      · refine ((h51.1.same h59').mod hm61 (fun hq => ?_) (fun hq => ?_)).mod h63 (fun e => by omega) (fun e => by omega)
        · have := hbfr _ hq; omega
        · have := hbfr _ hq; omega
      · rw [List.map_append, bgsF, hbl]; simp [hbm]
      · intro q hq
        rcases List.mem_append.1 hq with hq | hq
        · obtain ⟨q1, q2, q3⟩ := hbok51 q hq
          refine ⟨q1, q2, ((q3.same h59').mod hm61 (fun y o e e2 => (hbdis q hq y o e).2.2 e2)).mod h63 (fun y o e e2 => by have := (hbdis q hq y o e).1; omega)⟩
        · rw [List.mem_singleton.1 hq]
          obtain ⟨q1, q2, q3⟩ := hbo
          refine ⟨q1, q2, ((q3.same h59').mod hm61 (fun y o e e2 => ?_)).mod h63 (fun y o e e2 => ?_)⟩
          · have := (hbfresh y o e).1; have := hbown.vblk_lt e2; omega
          · have := (hbfresh y o e).1; omega
      · have : Own w63 v' 2 (bl.flatMap BV.cells ++ b.cells) := ho61.mod h63 (fun q hq e => by have := vne q hq; omega)
        simpa using this
      · intro q hq y o e
        rcases List.mem_append.1 hq with hq | hq
        · obtain ⟨d1, d2, d3⟩ := hbdis q hq y o e
          refine ⟨d1, by omega, fun h => ?_⟩
          rcases hf61 y h with h | h
          · exact d3 h
          · omega
        · rw [List.mem_singleton.1 hq] at e
          obtain ⟨d1, d2⟩ := hbfresh y o e
          refine ⟨by omega, by omega, fun h => ?_⟩
          rcases hf61 y h with h | h
          · have := hbown.vblk_lt h; omega
          · omega
      · intro q hq
        rcases List.mem_append.1 hq with hq | hq
        · exact hb32 q hq
        · rw [List.mem_singleton.1 hq]
          show b.m.parts.length ≤ 32
          rw [hbm]
          exact partsF_len _ _
      · exact ((hown51.same h59').mod hm61 (fun q hq e => by have := hbfr q e; have := hrvlt q hq; omega)).mod h63 (fun q hq e => by have := hfr q hq; omega)
      · exact h63.get (hm61.get (h59'.get hbx51 (fun h => h)) (fun hq => by have := hbfr _ hq; omega)) (fun e => by omega)
      · exact Mod.after (Mod.after ((Mod.after hml h51.2 (fun q hq => by omega)).trans h59') hm61 (fun q hq => by have := hbfr q hq; omega)) h63 (fun q hq => by omega)
    · have : j = k2.1 := by omega
      subst this
      obtain ⟨ba, n, bc, rfl, hs1, _⟩ := hbown.is
      have hn : n = bl.length := by have := hs1.1; rw [flat_len BV.cells 2 (fun _ => rfl)] at this; omega
      subst hn
      obtain ⟨ra, n, rc, rfl, hs2, hn1⟩ := hown.is
      have := hn1 rfl
      rw [List.length_map] at this
      subst this
      have e := readEnd hL (s := (bgsF k2.2 k2.1).2) (sv := ⟨fr, nx, sd, ba, bc, bl, ra, rc, Res.1⟩) hB ⟨h1, h2, h3, hrok, hbok, hs1, hs2⟩ hb32
        (fun y o e => by have e : ba = _ := e; have := hbfr y ⟨o, _, _, by rw [e]⟩; omega) (fun y o e => by have e : ra = _ := e; have := hfr y ⟨o, _, _, by rw [e]⟩; omega) (fun b hb y o e => by have := (hbdis b hb y o e).1; omega)
        hml (by omega) hsc hbSt hbX
      have hm' : (⟨fr, nx, sd, ba, bc, bl, ra, rc, Res.1⟩ : SV).m = ⟨fr, nx, sd, (tailF s0).1.2, (tailF s0).1.1⟩ := by
        rw [hT]; simp only [SV.m, hbl]
      rw [hm'] at e
      have hs' : (tailF s0).2 = (bgsF k2.2 k2.1).2 := by rw [hT]
      rw [hs']
      exact e
end Go.Proofs.YtcabkicjboedaaaDoor
end
section
namespace Go.Proofs.YtcabkicjboedaaaDoor
open Go Go.Ev
set_option linter.unusedVariables false
set_option linter.unusedSimpArgs false
set_option maxRecDepth 100000

theorem ldS {w : World} {bS bR : Nat} {s : SC} (h : ScAt w bS bR s) {K : Value → Prop} (hk : K (.pointer (some ⟨bR, 0, none⟩))) : kld (.pointer (some ⟨bS, 0 + 0, none⟩)) w K := kld_of h.1 rfl hk
theorem chkS {w : World} {bS bR : Nat} {s : SC} (h : ScAt w bS bR s) : kld (.pointer (some ⟨bS, 0 + 0, none⟩)) w fun v => v = .pointer (some ⟨bR, 0, none⟩) ∧ w = w := kld_of h.1 rfl ⟨rfl, rfl⟩
theorem ScTo.trans' {w w2 w3 : World} {bS bR : Nat} {s s' : SC} (h : ScTo w bS bR s w2) (h2 : ScTo w2 bS bR s' w3) : ScTo w bS bR s' w3 := ⟨h2.1, h.2.trans h2.2⟩
def zero5 : List Value := [.int .i64 0, .int .i64 0, .int .i64 0, .slice none 0 0, .slice none 0 0]
set_option maxHeartbeats 1000000 in
theorem Read_spec {S : Nat → Addr} {w : World} (hL : LaidN 4 S w) (hd : DeAt w) (l : List UInt8) (hl : l.length ≤ 4611686018427387904) :
    Meets Tryd.prog 16 #[.string (bs l)] w (ReadPost S (readF l).1 (okEnd (readF l).1 (readF l).2) w) := by
  refine f16_ok ?_
  unfold f16
  refine knew_of fun w2 h2 hs2 hbX => ?_
  refine kcall_of (NewReader_spec l w2) ?_
  rintro v w4 ⟨rfl, h4, hm4, hs4⟩
  refine kbld_of (cs := [.pointer (some ⟨w2.heap.size, 0, none⟩), .bool false]) rfl ?_
  refine knew_of fun w7 h7 hs7 hbS => ?_
  have hbS : blk w7 w4.heap.size = some (.cells #[.pointer (some ⟨w2.heap.size, 0, none⟩), .bool false] 90) := hbS
  have hR7 : RdAt w7 w2.heap.size ⟨l, false⟩ := h7.get h4 (fun h => h)
  have hX7 := h7.get (hm4.get hbX (fun h => h)) (fun h => h)
  have h7s : ScAt w7 w4.heap.size w2.heap.size ⟨⟨l, false⟩, false⟩ := ⟨hbS, hR7, by omega, by show l.length ≤ _; omega⟩
  rw [klenStr_string, bs_size, kint_leq]
  have hdec : decide ((l.length : Int) ≤ 32768) = decide (l.length ≤ 32768) := by simp only [decide_eq_decide]; omega
  rw [hdec]
  refine kcall_of (refuse_spec h7s _) ?_
  rintro v w12 ⟨h12, hs12⟩
  rw [Bool.false_or] at h12
  have hread : readF l = (⟨(head3 l).1.1, (head3 l).1.2.1, (head3 l).1.2.2, (tailF (head3 l).2).1.2, (tailF (head3 l).2).1.1⟩, (tailF (head3 l).2).2) := rfl
  rw [hread]
  have m7 : Same w w7 := (h2.trans hm4).trans h7
  have m12 : Same w w12 := Mod.after m7 h12.2 (fun b hb => by have := hm4.size; omega)
  have hX12 := h12.2.get hX7 (fun e => by omega)
  have h12s : ScAt w12.drew w4.heap.size w2.heap.size ⟨⟨l, false⟩, !decide (l.length ≤ 32768)⟩ := h12.1.same ((Mod.refl _ _).drew)
  have hX12 : blk w12.drew w.heap.size = some (.cells zero5.toArray 55) := hX12
  have m12 : Same w w12.drew := m12.drew
  generalize hwd : w12.drew = wd at *
  have hszd : wd.heap.size = w7.heap.size := by rw [← hwd]; exact hs12
  have hhead : head3 l = ((((numF M63 ⟨l, false⟩).1 : Int), ((numF M63 (numF M63 ⟨l, false⟩).2).1 : Int), unzz (numF M64 (numF M63 (numF M63 ⟨l, false⟩).2).2).1), (⟨(numF M64 (numF M63 (numF M63 ⟨l, false⟩).2).2).2, !decide (l.length ≤ 32768)⟩ : SC)) := rfl
  have hle1 := numF_le M63 ⟨l, false⟩
  have hle2 := numF_le M63 (numF M63 ⟨l, false⟩).2
  have hle3 := numF_le M64 (numF M63 (numF M63 ⟨l, false⟩).2).2
  have ln1 := numF_len M63 ⟨l, false⟩
  have ln2 := numF_len M63 (numF M63 ⟨l, false⟩).2
  have ln3 := numF_len M64 (numF M63 (numF M63 ⟨l, false⟩).2).2
  have z2 := hm4.size
  have fin : ∀ (w28 : World) (bSt : Nat), Same w w28 → ScAt w28 w4.heap.size w2.heap.size (head3 l).2 → wd.heap.size ≤ bSt → bSt < w28.heap.size →
      blk w28 bSt = some (.cells #[.int .i64 (numF M63 ⟨l, false⟩).1, .int .i64 (numF M63 (numF M63 ⟨l, false⟩).2).1, .int .i64 (unzz (numF M64 (numF M63 (numF M63 ⟨l, false⟩).2).2).1), .slice none 0 0, .slice none 0 0] 55) →
      blk w28 w.heap.size = some (.cells zero5.toArray 55) →
      f16_0 (.pointer (some ⟨w.heap.size, 0, none⟩)) (.pointer (some ⟨w4.heap.size, 0, none⟩)) (.pointer (some ⟨bSt, 0, none⟩)) (ReadPost S ⟨(head3 l).1.1, (head3 l).1.2.1, (head3 l).1.2.2, (tailF (head3 l).2).1.2, (tailF (head3 l).2).1.1⟩
        (okEnd ⟨(head3 l).1.1, (head3 l).1.2.1, (head3 l).1.2.2, (tailF (head3 l).2).1.2, (tailF (head3 l).2).1.1⟩ (tailF (head3 l).2).2) w) w28 := by
    intro w28 bSt hm hsc hb1 hb2 hbSt hbX
    refine read0 hL hd (bX := w.heap.size) (bS := w4.heap.size) (bR := w2.heap.size) (bSt := bSt) ⟨⟨by omega, by omega⟩, ⟨by omega, by omega⟩, ⟨by omega, by omega⟩, ⟨by omega, hb2⟩, ⟨by omega, by omega, by omega, by omega, by omega, by omega⟩⟩ _ _ _ ?_ ?_ ?_ hm hsc hbSt hbX
    · rw [hhead]; unfold I64 M63 at *; simp only; omega
    · rw [hhead]; unfold I64 M63 at *; simp only; omega
    · rw [hhead]; exact unzz_i64 (by unfold M64 at *; omega)
  rw [hhead] at fin ⊢
  simp only at fin ⊢
  clear hhead hread
  have frm : ∀ {wa wb : World} {s : SC}, Same w wa → ScTo wa w4.heap.size w2.heap.size s wb → Same w wb := fun ha hb => Mod.after ha hb.2 (fun b hb => by omega)
  have keepX : ∀ {wa wb : World} {s : SC}, blk wa w.heap.size = some (.cells zero5.toArray 55) → ScTo wa w4.heap.size w2.heap.size s wb → blk wb w.heap.size = some (.cells zero5.toArray 55) := fun ha hb => hb.2.get ha (fun e => by omega)
  refine ⟨?_, ?_⟩
  · rw [kN_ptr]
    refine kfld_of (ldS h12s ?_)
    refine kG_of rfl ?_
    refine kcall_of (Count_spec h12s.2.1 h12s.2.2.2) ?_
    rintro v w16 ⟨rfl, h16⟩
    have h16 := h12s.rd h16 (numF_len _ _)
    have m16 := frm m12 h16
    have X16 := keepX hX12 h16
    refine ⟨?_, ?_⟩
    · rw [kN_ptr]
      refine kfld_of (ldS h16.1 ?_)
      refine kG_of rfl ?_
      refine kG_of (chkS h12s) ?_
      refine kcall_of (Count_spec h16.1.2.1 h16.1.2.2.2) ?_
      rintro v w20 ⟨rfl, h20⟩
      have h20 := h16.1.rd h20 (numF_len _ _)
      have m20 := frm m16 h20
      have X20 := keepX X16 h20
      refine ⟨?_, ?_⟩
      · rw [kN_ptr]
        refine kfld_of (ldS h20.1 ?_)
        refine kG_of rfl ?_
        refine kG_of (chkS h16.1) ?_
        refine kG_of (chkS h12s) ?_
        refine kcall_of (Num_spec h20.1.2.1 h20.1.2.2.2) ?_
        rintro v w24 ⟨rfl, h24⟩
        have h24 := h20.1.rd h24 (numF_len _ _)
        have m24 := frm m20 h24
        have X24 := keepX X20 h24
        refine knew_of fun w26 h26 hs26 hb26 => ?_
        have h26s := h24.1.same h26
        refine kG_of (chkS h26s) ?_
        refine kG_of (chkS h26s) ?_
        refine kG_of (chkS h26s) ?_
        refine kbld_of (cs := [_, _, _, .slice none 0 0, .slice none 0 0]) rfl ?_
        refine kst_of (vs := [_, _, _, .slice none 0 0, .slice none 0 0]) hb26 rfl rfl rfl (by simp) (by simp) fun w28 h28 hs28 hb28 => ?_
        have z16 := h16.2.size
        have z20 := h20.2.size
        have z24 := h24.2.size
        refine fin w28 w24.heap.size (Mod.after (m24.trans h26) h28 (fun b hb => by omega)) (h26s.mod h28 (fun e => by omega) (fun e => by omega)) (by omega) (by omega) hb28 (h28.get (h26.get X24 (fun h => h)) (fun e => by omega))
      · refine knew_of fun w99 h99 hs99 hb99 => ?_
        have h99s := h20.1.same h99
        refine kG_of (chkS h99s) ?_
        refine kG_of (chkS h99s) ?_
        rw [kN_ptr]
        refine kfld_of (ldS h99s ?_)
        refine kG_of rfl ?_
        refine kG_of (chkS h20.1) ?_
        refine kG_of (chkS h16.1) ?_
        refine kG_of (chkS h12s) ?_
        refine kcall_of (Num_spec h99s.2.1 h99s.2.2.2) ?_
        rintro v w24 ⟨rfl, h24⟩
        have h24 := h99s.rd h24 (numF_len _ _)
        have m24 := frm (m20.trans h99) h24
        have X24 := keepX (h99.get X20 (fun h => h)) h24
        have z16 := h16.2.size
        have z20 := h20.2.size
        have z24 := h24.2.size
        refine kbld_of (cs := [_, _, _, .slice none 0 0, .slice none 0 0]) rfl ?_
        refine kst_of (vs := [_, _, _, .slice none 0 0, .slice none 0 0]) (h24.2.get hb99 (fun e => by omega)) rfl rfl rfl (by simp) (by simp) fun w28 h28 hs28 hb28 => ?_
        refine fin w28 w20.heap.size (Mod.after m24 h28 (fun b hb => by omega)) (h24.1.mod h28 (fun e => by omega) (fun e => by omega)) (by omega) (by omega) hb28 (h28.get X24 (fun e => by omega))
    · refine knew_of fun w99 h99 hs99 hb99 => ?_
      have h99s := h16.1.same h99
      refine kG_of (chkS h99s) ?_
      rw [kN_ptr]
      refine kfld_of (ldS h99s ?_)
      refine kG_of rfl ?_
      refine kG_of (chkS h16.1) ?_
      refine kG_of (chkS h12s) ?_
      refine kcall_of (Count_spec h99s.2.1 h99s.2.2.2) ?_
      rintro v w20 ⟨rfl, h20⟩
      have h20 := h99s.rd h20 (numF_len _ _)
      have m20 := frm (m16.trans h99) h20
      have X20 := keepX (h99.get X16 (fun h => h)) h20
      rw [kN_ptr]
      refine kfld_of (ldS h20.1 ?_)
      refine kG_of rfl ?_
      refine kG_of (chkS h99s) ?_
      refine kG_of (chkS h16.1) ?_
      refine kG_of (chkS h12s) ?_
      refine kcall_of (Num_spec h20.1.2.1 h20.1.2.2.2) ?_
      rintro v w24 ⟨rfl, h24⟩
      have h24 := h20.1.rd h24 (numF_len _ _)
      have m24 := frm m20 h24
      have X24 := keepX X20 h24
      have z16 := h16.2.size
      have z20 := h20.2.size
      have z24 := h24.2.size
      refine kbld_of (cs := [_, _, _, .slice none 0 0, .slice none 0 0]) rfl ?_
      refine kst_of (vs := [_, _, _, .slice none 0 0, .slice none 0 0]) (h24.2.get (h20.2.get hb99 (fun e => by omega)) (fun e => by omega)) rfl rfl rfl (by simp) (by simp) fun w28 h28 hs28 hb28 => ?_
      refine fin w28 w16.heap.size (Mod.after m24 h28 (fun b hb => by omega)) (h24.1.mod h28 (fun e => by omega) (fun e => by omega)) (by omega) (by omega) hb28 (h28.get X24 (fun e => by omega))
  · refine knew_of fun w99 h99 hs99 hb99 => ?_
    have h99s := h12s.same h99
    rw [kN_ptr]
    refine kfld_of (ldS h99s ?_)
    refine kG_of rfl ?_
    refine kG_of (chkS h12s) ?_
    refine kcall_of (Count_spec h99s.2.1 h99s.2.2.2) ?_
    rintro v w16 ⟨rfl, h16⟩
    have h16 := h99s.rd h16 (numF_len _ _)
    have m16 := frm (m12.trans h99) h16
    have X16 := keepX (h99.get hX12 (fun h => h)) h16
    rw [kN_ptr]
    refine kfld_of (ldS h16.1 ?_)
    refine kG_of rfl ?_
    refine kG_of (chkS h99s) ?_
    refine kG_of (chkS h12s) ?_
    refine kcall_of (Count_spec h16.1.2.1 h16.1.2.2.2) ?_
    rintro v w20 ⟨rfl, h20⟩
    have h20 := h16.1.rd h20 (numF_len _ _)
    have m20 := frm m16 h20
    have X20 := keepX X16 h20
    rw [kN_ptr]
    refine kfld_of (ldS h20.1 ?_)
    refine kG_of rfl ?_
    refine kG_of (chkS h16.1) ?_
    refine kG_of (chkS h99s) ?_
    refine kG_of (chkS h12s) ?_
    refine kcall_of (Num_spec h20.1.2.1 h20.1.2.2.2) ?_
    rintro v w24 ⟨rfl, h24⟩
    have h24 := h20.1.rd h24 (numF_len _ _)
    have m24 := frm m20 h24
    have X24 := keepX X20 h24
    have z16 := h16.2.size
    have z20 := h20.2.size
    have z24 := h24.2.size
    refine kbld_of (cs := [_, _, _, .slice none 0 0, .slice none 0 0]) rfl ?_
    refine kst_of (vs := [_, _, _, .slice none 0 0, .slice none 0 0]) (h24.2.get (h20.2.get (h16.2.get hb99 (fun e => by omega)) (fun e => by omega)) (fun e => by omega)) rfl rfl rfl (by simp) (by simp) fun w28 h28 hs28 hb28 => ?_
    refine fin w28 wd.heap.size (Mod.after m24 h28 (fun b hb => by omega)) (h24.1.mod h28 (fun e => by omega) (fun e => by omega)) (by omega) (by omega) hb28 (h28.get X24 (fun e => by omega))
end Go.Proofs.YtcabkicjboedaaaDoor
end
section
namespace Go.Proofs.YtcabkicjboedaaaDoor
open Go Go.Ev
set_option linter.unusedVariables false
set_option linter.unusedSimpArgs false
set_option maxRecDepth 100000

def u8V (b : UInt8) : Value := .int .u8 (b.toNat : Int)
theorem u8V_one (l : List UInt8) : oneCells (l.map u8V) = true := ones_map u8V (fun _ => rfl) l
theorem apByte : appT Tryd.prog 104 1 1 = true := by kernel_rfl
theorem slByte : Tryd.prog.underlying 104 = some (.slice 5) := by kernel_rfl
theorem uByte : Tryd.prog.underlying 5 = some (.int .u8) := by kernel_rfl
theorem uStr : Tryd.prog.underlying 9 = some .string := by kernel_rfl
/-- 'string(b)' of bytes. -/
theorem ksem_bytes {w : World} {a : Option Addr} {l : List UInt8} {c : Nat} (hs : SlIs w a l.length 1 (l.map u8V)) {K : Value → World → Prop} (hK : K (.string (bs l)) w) :
    ksem Tryd.prog (convert 104 9 (.slice a l.length c)) w K := by
  have hmain : (convert 104 9 (.slice a l.length c)).run Tryd.prog w = .ok (.string (bs l)) w := by
    rcases hs.2 with h0 | ⟨b, o, cs, t, f, rfl, hb, hc⟩
    · have : l = [] := List.length_eq_zero_iff.1 h0
      subst this
      rw [run_convert_bytes_string w _ _ _ a _ c slByte uByte uStr]
      cases a with
      | none => simp [Conv.bytesToString]; rfl
      | some a =>
        have hl : (loadCells a 0).run Tryd.prog w = .ok (([] : List Int).map (Value.int .u8)).toArray w := by
          have := run_loadCells_list (P := Tryd.prog) w a [] (by simp)
          simpa using this
        rw [List.length_nil, run_bytesToString w a 0 c [] hl]
        rfl
    · have h := run_convert_bytes_arg w 104 5 slByte uByte b o l.length c (l.map fun x => (x.toNat : Int)) (by simp) (fun i hi => by
        obtain ⟨b', o', c', t', f', e, hb', hc'⟩ := hs.at1 hi (by simpa using hi)
        cases e
        rw [cell_mk, hb', cellO_some, hc']
        simp [u8V, hi]) 9 uStr
      rw [h]
      congr 2
      unfold strOfNums bs
      congr 1
      rw [List.map_map]
      congr 1
      conv => rhs; rw [← List.map_id l]
      apply List.map_congr_left
      intro x _
      simp
  rw [ksem_ok hmain]
  exact hK

theorem u8_or128 {a : Nat} (h : a < 128) : ior .u8 (a : Int) 128 = ((a + 128 : Nat) : Int) := by
  show IntKind.u8.wrap ((BitVec.ofInt 8 (a : Int) ||| BitVec.ofInt 8 (128 : Int)).toNat) = _
  have e1 : (BitVec.ofInt 8 (a : Int)).toNat = a := by simp [BitVec.ofInt_natCast]; omega
  have e2 : (BitVec.ofInt 8 (128 : Int)).toNat = 128 := by decide
  have e3 : a ||| 128 = a + 128 := by
    have := or_add (n := a) (x := 1) (j := 7) (by omega)
    simpa using this
  rw [BitVec.toNat_or, e1, e2, e3, wrap_u8 (by omega) (by omega)]
def GrInv (n : Nat) (w : World) (x0 x2 : Value) (wr : World) : Prop := ∃ (m : Nat) (l : List UInt8), m < 18446744073709551616 ∧ l.length + (groupsF m).length = (groupsF n).length ∧ x0 = .int .u64 m ∧ Own wr x2 1 (l.map u8V) ∧ groupsF n = l ++ groupsF m ∧ Same w wr ∧ ∀ k, vblk x2 k → w.heap.size ≤ k
theorem groupsF_len : ∀ (k n : Nat), n < 128 ^ (k + 1) → (groupsF n).length ≤ k + 1
  | 0, n, h => by rw [groupsF, if_pos (by omega)]; simp
  | k + 1, n, h => by
    rw [groupsF]
    split
    · simp
    · have := groupsF_len k (n / 128) (by rw [Nat.pow_succ] at h; omega)
      simp only [List.length_cons]; omega
theorem groupsF_len64 {n : Nat} (h : n < 18446744073709551616) : (groupsF n).length ≤ 10 := groupsF_len 9 n (Nat.lt_of_lt_of_le h (by decide))
theorem groups_spec (n : Nat) (hn : n < 18446744073709551616) (w : World) : Meets Tryd.prog 81 #[.int .u64 n] w fun v w' => Own w' v 1 ((groupsF n).map u8V) ∧ Same w w' ∧ ∀ k, vblk v k → w.heap.size ≤ k := by
  have h10 := groupsF_len64 hn
  refine f81_ok ?_
  unfold f81
  refine kL_of (GrInv n w) (fun x _ _ => (RowKit.intOf x).toNat) ⟨⟨n, [], hn, by simp, rfl, Own.nil _ _, rfl, Mod.refl _ _, fun b hb => by obtain ⟨_, _, _, h⟩ := hb; cases h⟩, ?_⟩
  rintro x0 x2 wr ⟨m, l, hm, hll, rfl, ho, hl, hs, hf⟩
  unfold f81_0
  rw [kint_geq, kB_bool]
  have app : ∀ (b : UInt8) (K : Value → World → Prop), (∀ v' w', Own w' v' 1 ((l ++ [b]).map u8V) → Same w w' → (∀ k, vblk v' k → w.heap.size ≤ k) → K v' w') →
      kbldS [(.int .u8 0)] 1 [(0, 1, u8V b)] 5 wr fun v5 w6 => ksem Tryd.prog (Builtin.append_ #[104, 104] 0 #[x2, v5]) w6 K := by
    intro b K hK
    refine kbldS_of (cs := [u8V b]) rfl fun w5 h5 hs5 hb5 => ?_
    have hlen : l.length ≤ 10 := by omega
    refine ksem_append apByte (by omega) (ho.same h5) (Src.ofSlIs (hk := slByte) 1 (SlIs.blk hb5 rfl) rfl) (by simp; omega) (by simp; omega) ?_
    intro v' w7 ho7 hm7 hf7
    refine hK v' w7 ?_ (Mod.after (hs.trans h5) hm7 hf) fun k hk => ?_
    · rw [List.map_append]; exact ho7
    · rcases hf7 k hk with h | h
      · exact hf k h
      · have := hs.size; have := h5.size; omega
  refine kIf_dec (fun h => ?_) (fun h => ?_)
  · have h128 : ¬ m < 128 := by omega
    have hg : groupsF m = UInt8.ofNat (m % 128 + 128) :: groupsF (m / 128) := by rw [groupsF, if_neg h128]
    unfold f81_1
    rw [kint_rem]
    refine kG_of (by omega) ?_
    rw [show (128 : Int) = ((128 : Nat) : Int) from rfl, tmod_nat, kcnv_int, wrap_u8 (by omega) (by omega), kint_or, show ((128 : Nat) : Int) = 128 from rfl, u8_or128 (by omega)]
    have eb : (.int .u8 ((m % 128 + 128 : Nat) : Int) : Value) = u8V (UInt8.ofNat (m % 128 + 128)) := by
      unfold u8V
      have : (UInt8.ofNat (m % 128 + 128)).toNat = m % 128 + 128 := by simp; omega
      rw [this]
    rw [eb]
    refine app _ _ fun v' w' ho' hs' hf' => ?_
    rw [kint_shr]
    refine kG_of (by omega) ?_
    rw [show (7 : Int) = ((7 : Nat) : Int) from rfl, shr_nat m 7 (by decide), show (2 : Nat) ^ 7 = 128 from rfl]
    rw [hg] at hl hll
    refine ⟨⟨m / 128, l ++ [UInt8.ofNat (m % 128 + 128)], by omega, by simp at hll ⊢; omega, rfl, ho', by rw [hl]; simp, hs', hf'⟩, by simp [RowKit.intOf]; omega⟩
  · have hg : groupsF m = [UInt8.ofNat m] := by rw [groupsF, if_pos (by omega)]
    unfold f81_2
    rw [kcnv_int, wrap_u8 (by omega) (by omega)]
    have eb : (.int .u8 (m : Int) : Value) = u8V (UInt8.ofNat m) := by
      unfold u8V
      have : (UInt8.ofNat m).toNat = m := by simp; omega
      rw [this]
    rw [eb]
    refine app _ _ fun v' w' ho' hs' hf' => ?_
    rw [hl, hg]
    exact ⟨ho', hs', hf'⟩

/-! ### The writer -/
/-- What a writer of at most so many bytes holds; none: it is wrong. -/
def WrAt (w : World) (b most : Nat) : Option (List UInt8) → Prop
  | some out => ∃ v, blk w b = some (.cells #[v, .int .i64 most, .nilIface] 152) ∧ Own w v 1 (out.map u8V) ∧ (∀ k, vblk v k → k ≠ b) ∧ out.length ≤ most
  | none => ∃ t x, blk w b = some (.cells #[.slice none 0 0, .int .i64 most, .iface t x] 152)
/-- The blocks that a writer writes to. -/
def wfp (w : World) (b k : Nat) : Prop := k = b ∨ ∃ c t f v, blk w b = some (.cells c t f) ∧ c[0]? = some v ∧ vblk v k
structure WrTo (w : World) (b most : Nat) (o : Option (List UInt8)) (w' : World) : Prop where
  at' : WrAt w' b most o
  mod : Mod (wfp w b) w w'
  fresh : ∀ k, wfp w' b k → wfp w b k ∨ w.heap.size ≤ k
theorem WrTo.trans {w w2 w3 : World} {b most : Nat} {o o' : Option (List UInt8)} (h : WrTo w b most o w2) (h2 : WrTo w2 b most o' w3) : WrTo w b most o' w3 :=
  ⟨h2.at', h.mod.trans' (h2.mod.mono fun k _ hk => h.fresh k hk), fun k hk => (h2.fresh k hk).elim (fun h' => h.fresh k h') (fun h' => .inr (Nat.le_trans h.mod.size h'))⟩
theorem WrAt.own {w : World} {b most : Nat} {o : Option (List UInt8)} (h : WrAt w b most o) : ∃ c t f v, blk w b = some (.cells c t f) ∧ c[0]? = some v ∧ (∀ k, vblk v k → k < w.heap.size) := by
  cases o with
  | none => obtain ⟨t, x, hb⟩ := h; exact ⟨_, _, _, _, hb, rfl, fun k hk => by obtain ⟨_, _, _, e⟩ := hk; cases e⟩
  | some out => obtain ⟨v, hb, ho, _⟩ := h; exact ⟨_, _, _, _, hb, rfl, fun k hk => ho.vblk_lt hk⟩
theorem WrAt.wfp_lt {w : World} {b most : Nat} {o : Option (List UInt8)} (h : WrAt w b most o) {k : Nat} (hk : wfp w b k) : k < w.heap.size := by
  obtain ⟨c, t, f, v, hb, hc, hv⟩ := h.own
  rcases hk with rfl | ⟨c', t', f', v', hb', hc', hk⟩
  · exact lt_of_blk hb
  · rw [hb] at hb'
    cases hb'
    rw [hc] at hc'
    cases hc'
    exact hv k hk
theorem wfp_same {w w' : World} {b most : Nat} {o : Option (List UInt8)} (h : WrAt w b most o) {fp : Nat → Prop} (hm : Mod fp w w') (hb : ¬ fp b) {k : Nat} (hk : wfp w' b k) : wfp w b k := by
  obtain ⟨c, t, f, v, hb1, hc, hv⟩ := h.own
  rcases hk with rfl | ⟨c', t', f', v', hb', hc', hk⟩
  · exact .inl rfl
  · rw [hm.get hb1 hb] at hb'
    cases hb'
    exact .inr ⟨_, _, _, _, hb1, hc', hk⟩
/-- What does not touch a writer leaves it. -/
theorem WrAt.mod {w w' : World} {b most : Nat} {o : Option (List UInt8)} (h : WrAt w b most o) {fp : Nat → Prop} (hm : Mod fp w w') (hf : ∀ k, wfp w b k → ¬ fp k) : WrAt w' b most o := by
  cases o with
  | none => obtain ⟨t, x, hb⟩ := h; exact ⟨t, x, hm.get hb (hf b (.inl rfl))⟩
  | some out =>
    obtain ⟨v, hb, ho, hne, hl⟩ := h
    exact ⟨v, hm.get hb (hf b (.inl rfl)), ho.mod hm fun k hk => hf k (.inr ⟨_, _, _, _, hb, rfl, hk⟩), hne, hl⟩
theorem WrTo.of_same {w w' : World} {b most : Nat} {o : Option (List UInt8)} (h : WrAt w b most o) (hm : Same w w') : WrTo w b most o w' :=
  ⟨h.mod hm (fun _ _ h => h), Mod.of_same hm, fun k hk => .inl (wfp_same h hm (fun h => h) hk)⟩
def writeF (most : Nat) (o : Option (List UInt8)) (x : List UInt8) : Option (List UInt8) := match o with
  | none => none
  | some out => if most < out.length + x.length then none else some (out ++ x)
theorem ptWriter : isPtrT Tryd.prog 105 = true := by kernel_rfl
theorem write_spec {S : Nat → Addr} {w : World} (hL : LaidN 4 S w) {b most : Nat} {o : Option (List UInt8)} (h : WrAt w b most o) (hm1 : most ≤ 1073741824) (x : List UInt8) (hx : x.length ≤ 1073741824) (a : Option Addr) (c : Nat) (hs : SlIs w a x.length 1 (x.map u8V)) :
    Meets Tryd.prog 80 #[.pointer (some ⟨b, 0, none⟩), .slice a x.length c] w fun v w' => WrTo w b most (writeF most o x) w' := by
  refine f80_ok ?_
  unfold f80
  rw [keq_ptr_nil ptWriter, kB_bool]
  refine kIf_of (fun _ => ?_) (fun h => by cases h)
  rw [kN_ptr]
  refine kfld_of ?_
  cases o with
  | none =>
    obtain ⟨t, y, hb⟩ := h
    refine kld_of (v := .iface t y) hb rfl ?_
    rw [keq_if_nil' ifErr]
    unfold f80_0
    rw [kB_bool, kIf_true]
    exact WrTo.of_same ⟨t, y, hb⟩ (Mod.refl _ _)
  | some out =>
    have hW := h
    obtain ⟨v, hb, ho, hne, hlen⟩ := h
    refine kld_of (v := .nilIface) hb rfl ?_
    rw [keq_nil_nil' ifErr]
    unfold f80_0
    rw [kB_bool, kIf_false, klen_slice, kN_ptr]
    have hbd : blk w.drew b = some (.cells #[v, .int .i64 most, .nilIface] 152) := hb
    refine kfld_of ?_
    refine kld_of (v := .int .i64 most) hbd rfl ?_
    refine kG_of rfl ?_
    rw [kN_ptr]
    refine kfld_of ?_
    refine kld_of (v := v) hbd rfl ?_
    refine kG_of rfl ?_
    have hown := ho
    obtain ⟨a0, n0, c0, rfl, h1, h2, h3, h4⟩ := ho
    have hn0 : n0 = out.length := by simpa using h1.symm
    subst hn0
    rw [klen_slice, kint_sub, wrap_i64 (by omega) (by omega), kint_gtr, kB_bool]
    refine kIf_dec (fun hgt => ?_) (fun hle => ?_)
    · have e : writeF most (some out) x = none := by unfold writeF; simp only; rw [if_pos (by omega)]
      rw [e]
      refine kld_err hL (k := 4) (by omega) (by omega) rfl rfl ?_
      have hwr : Meets Tryd.prog 99 #[.pointer (some ⟨b, 0, none⟩), errV S 4] w.drew fun v w' => WrTo w b most none w' := by
        refine f99_ok ?_
        unfold f99
        refine kcall_of (AtV_spec _ _ _ w.drew) ?_
        rintro v w2 ⟨rfl, _, hm2⟩
        have hm2 : Same w w2 := ((Mod.refl _ _).drew).trans hm2
        have hb2 := hm2.get hb (fun h => h)
        rw [kN_ptr]
        refine kfld_of ?_
        refine kst_of (vs := [.slice none 0 0]) hb2 rfl rfl rfl (by simp) (by simp) fun w4 h4 hs4 hb4 => ?_
        rw [kN_ptr]
        refine kfld_of ?_
        refine kst_of (vs := [.iface 120 (.pointer (some ⟨w.drew.heap.size, 0, none⟩))]) hb4 rfl rfl rfl (by simp) (by simp) fun w6 h6 hs6 hb6 => ?_
        refine ⟨⟨_, _, hb6⟩, ?_, ?_⟩
        · exact ((Mod.of_same hm2).trans (h4.mono fun k _ e => .inl e)).trans (h6.mono fun k _ e => .inl e)
        · intro k hk
          rcases hk with rfl | ⟨c', t', f', v', hb', hc', hk⟩
          · exact .inl (.inl rfl)
          · rw [hb6] at hb'
            cases hb'
            simp at hc'
            subst hc'
            obtain ⟨_, _, _, e⟩ := hk
            cases e
      refine kcall_of hwr ?_
      rintro v w' h'
      exact h'
    · have e : writeF most (some out) x = some (out ++ x) := by unfold writeF; simp only; rw [if_neg (by omega)]
      rw [e]
      rw [kN_ptr]
      refine kfld_of ?_
      refine kld_of (v := .slice a0 out.length c0) hbd rfl ?_
      have hd : Same w w.drew := (Mod.refl _ _).drew
      refine ksem_append apByte (by omega) (hown.same hd) (Src.ofSlIs (hk := slByte) c (hs.same hd) (u8V_one x)) (by simp; omega) (by simp; omega) ?_
      intro v' w24 ho' hm' hf'
      have hm' : Mod (vblk (.slice a0 out.length c0)) w w24 := ((Mod.refl _ _).drew).trans hm'
      have hb24 := hm'.get hb (fun hk => hne _ hk rfl)
      rw [kN_ptr]
      refine kfld_of ?_
      refine kst_of (vs := [v']) hb24 (own_one ho').1 rfl (by rw [oneCells, (own_one ho').2]; rfl) (by simp) (by simp) fun w26 h26 hs26 hb26 => ?_
      have hb26 : blk w26 b = some (.cells #[v', .int .i64 most, .nilIface] 152) := hb26
      have vne : ∀ k, vblk v' k → k ≠ b := fun k hk => by
        rcases hf' k hk with h | h
        · exact hne k h
        · have h : w.heap.size ≤ k := h
          have := lt_of_blk hb; omega
      refine ⟨⟨v', hb26, ?_, vne, by simp; omega⟩, ?_, ?_⟩
      · rw [List.map_append]; exact ho'.mod h26 fun k hk e => vne k hk e
      · exact (hm'.mono fun k _ hk => .inr ⟨_, _, _, _, hb, rfl, hk⟩).trans (h26.mono fun k _ e => .inl e)
      · intro k hk
        rcases hk with rfl | ⟨c', t', f', v2, hb', hc', hk⟩
        · exact .inl (.inl rfl)
        · rw [hb26] at hb'
          cases hb'
          simp at hc'
          subst hc'
          rcases hf' k hk with h | h
          · exact .inl (.inr ⟨_, _, _, _, hb, rfl, h⟩)
          · exact .inr h
end Go.Proofs.YtcabkicjboedaaaDoor
end
section
namespace Go.Proofs.YtcabkicjboedaaaDoor
open Go Go.Ev
set_option linter.unusedVariables false
set_option linter.unusedSimpArgs false
set_option maxRecDepth 100000

theorem writeF_append (most : Nat) (o : Option (List UInt8)) (x y : List UInt8) : writeF most (writeF most o x) y = writeF most o (x ++ y) := by
  cases o with
  | none => rfl
  | some out =>
    unfold writeF
    simp only [List.length_append]
    by_cases h : most < out.length + x.length
    · rw [if_pos h, if_pos (by omega)]
    · rw [if_neg h]
      simp only [List.length_append]
      by_cases h2 : most < out.length + x.length + y.length
      · rw [if_pos h2, if_pos (by omega)]
      · rw [if_neg h2, if_neg (by omega), List.append_assoc]
theorem own_sl {w : World} {v : Value} {α : Type} {f : α → Value} {l : List α} (h : Own w v 1 (l.map f)) : ∃ a c, v = .slice a l.length c ∧ SlIs w a l.length 1 (l.map f) := by
  obtain ⟨a, n, c, rfl, hs, hn⟩ := h.is
  have := hn rfl
  rw [List.length_map] at this
  subst this
  exact ⟨a, c, rfl, hs⟩
section
variable {S : Nat → Addr} {w : World} {b most : Nat} {o : Option (List UInt8)}
theorem writeGroups (hL : LaidN 4 S w) (h : WrAt w b most o) (hm1 : most ≤ 1073741824) (n : Nat) (hn : n < 18446744073709551616) {K : Value → World → Prop} (hK : ∀ v w', WrTo w b most (writeF most o (groupsF n)) w' → K v w') :
    kcall Tryd.prog 81 #[.int .u64 n] w fun v2 w3 => kcall Tryd.prog 80 #[.pointer (some ⟨b, 0, none⟩), v2] w3 K := by
  have h10 := groupsF_len64 hn
  refine kcall_of (groups_spec n hn w) ?_
  rintro v w3 ⟨ho, hs, hf⟩
  obtain ⟨a, c, rfl, hsl⟩ := own_sl ho
  have h3 := WrTo.of_same h hs
  refine kcall_of (write_spec (hL.same hs) h3.at' hm1 (groupsF n) (by omega) a c hsl) ?_
  rintro v w' h'
  exact hK v w' (h3.trans h')
theorem CountW_spec (hL : LaidN 4 S w) (h : WrAt w b most o) (hm1 : most ≤ 1073741824) (n : Int) (h0 : 0 ≤ n) (hn : n ≤ 9223372036854775807) :
    Meets Tryd.prog 52 #[.pointer (some ⟨b, 0, none⟩), .int .i64 n] w fun v w' => WrTo w b most (writeF most o (groupsF n.toNat)) w' := by
  refine f52_ok ?_
  unfold f52
  rw [kint_lss, kB_bool]
  refine kIf_dec (fun h => absurd h (by omega)) (fun _ => ?_)
  unfold f52_0
  rw [kcnv_int, wrap_u64 (by omega) (by omega), show n = (n.toNat : Int) by omega]
  exact writeGroups hL h hm1 n.toNat (by omega) fun v w' h' => h'
theorem BitsW_spec (hL : LaidN 4 S w) (h : WrAt w b most o) (hm1 : most ≤ 1073741824) (m : Nat) (hm : m < 4294967296) :
    Meets Tryd.prog 82 #[.pointer (some ⟨b, 0, none⟩), msk m] w fun v w' => WrTo w b most (writeF most o (groupsF m)) w' := by
  refine f82_ok ?_
  unfold f82
  rw [msk, kcnv_int, wrap_u64 (by omega) (by omega)]
  exact writeGroups hL h hm1 m (by omega) fun v w' h' => h'
theorem inot_u64 {a : Nat} (h : a < 18446744073709551616) : inot .u64 (a : Int) = ((18446744073709551615 - a : Nat) : Int) := by
  show IntKind.u64.wrap ((BitVec.ofInt 64 18446744073709551615 ^^^ BitVec.ofInt 64 (a : Int)).toNat) = _
  have e : (BitVec.ofInt 64 18446744073709551615 ^^^ BitVec.ofInt 64 (a : Int)) = ~~~ (BitVec.ofInt 64 (a : Int)) := by
    have : BitVec.ofInt 64 18446744073709551615 = BitVec.allOnes 64 := by decide
    rw [this, BitVec.allOnes_xor]
  rw [e, BitVec.toNat_not, u64_of h, show 2 ^ 64 - 1 - a = 18446744073709551615 - a by omega, wrap_u64 (by omega) (by omega)]
theorem NumW_spec (hL : LaidN 4 S w) (h : WrAt w b most o) (hm1 : most ≤ 1073741824) (n : Int) (hn : I64 n) :
    Meets Tryd.prog 53 #[.pointer (some ⟨b, 0, none⟩), .int .i64 n] w fun v w' => WrTo w b most (writeF most o (groupsF (zz n))) w' := by
  have hz := zz_lt hn
  obtain ⟨n1, n2⟩ := hn
  refine f53_ok ?_
  unfold f53
  rw [kcnv_int, kint_shl]
  refine kG_of (by omega) ?_
  rw [kint_lss, kB_bool]
  have hsh : ishl .u64 (IntKind.u64.wrap n) 1 = IntKind.u64.wrap (IntKind.u64.wrap n * 2) := rfl
  refine kIf_dec (fun h0 => ?_) (fun h0 => ?_)
  · have e : ishl .u64 (IntKind.u64.wrap n) 1 = (((2 * n + 18446744073709551616).toNat : Nat) : Int) := by
      rw [hsh]; unfold IntKind.wrap; simp [IntKind.signed, IntKind.bits]; omega
    rw [e, kun_xor, inot_u64 (by omega)]
    have e2 : 18446744073709551615 - (2 * n + 18446744073709551616).toNat = zz n := by unfold zz; rw [if_neg (by omega)]; omega
    rw [e2]
    unfold f53_0
    exact writeGroups hL h hm1 (zz n) hz fun v w' h' => h'
  · have e : ishl .u64 (IntKind.u64.wrap n) 1 = ((zz n : Nat) : Int) := by
      have ez : zz n = (2 * n).toNat := by unfold zz; rw [if_pos (by omega)]
      rw [hsh, ez]; unfold IntKind.wrap; simp [IntKind.signed, IntKind.bits]; omega
    rw [e]
    unfold f53_0
    exact writeGroups hL h hm1 (zz n) hz fun v w' h' => h'
theorem ByteW_spec (hL : LaidN 4 S w) (h : WrAt w b most o) (hm1 : most ≤ 1073741824) (n : Nat) (hn : n < 256) :
    Meets Tryd.prog 100 #[.pointer (some ⟨b, 0, none⟩), .int .i64 n] w fun v w' => WrTo w b most (writeF most o [UInt8.ofNat n]) w' := by
  refine f100_ok ?_
  unfold f100
  rw [kint_lss, kB_bool]
  refine kIf_of (fun _ => ?_) (fun h => by simp at h; omega)
  rw [kint_gtr]
  unfold f100_0
  rw [kB_bool]
  refine kIf_dec (fun h => absurd h (by omega)) (fun _ => ?_)
  unfold f100_1
  rw [kcnv_int, wrap_u8 (by omega) (by omega)]
  have eb : (.int .u8 (n : Int) : Value) = u8V (UInt8.ofNat n) := by
    unfold u8V
    have : (UInt8.ofNat n).toNat = n := by simp; omega
    rw [this]
  rw [eb]
  refine kbldS_of (cs := [u8V (UInt8.ofNat n)]) rfl fun w2 h2 hs2 hb2 => ?_
  have h3 := WrTo.of_same h h2
  refine kcall_of (write_spec (hL.same h2) h3.at' hm1 [UInt8.ofNat n] (by simp) _ 1 (SlIs.blk hb2 rfl)) ?_
  rintro v w' h'
  exact h3.trans h'
theorem NewWriter_spec (w : World) : Meets Tryd.prog 51 #[.int .i64 32768] w fun v w' => v = .pointer (some ⟨w.heap.size, 0, none⟩) ∧ WrAt w' w.heap.size 32768 (some []) ∧ Same w w' ∧ (∀ k, wfp w' w.heap.size k → w.heap.size ≤ k) := by
  refine f51_ok ?_
  unfold f51
  rw [kmm_max]
  refine kbld_of (cs := [.slice none 0 0, .int .i64 32768, .nilIface]) rfl ?_
  refine knew_of fun w2 h2 hs2 hb2 => ?_
  refine ⟨rfl, ⟨_, hb2, Own.nil _ _, fun k hk => (by obtain ⟨_, _, _, e⟩ := hk; cases e), by simp⟩, h2, fun k hk => ?_⟩
  rcases hk with rfl | ⟨c, t, f, v, hb, hc, hk⟩
  · exact Nat.le_refl _
  · rw [hb2] at hb
    cases hb
    simp [Value.cells] at hc
    subst hc
    obtain ⟨_, _, _, e⟩ := hk
    cases e
/-- What the writer's Bytes hands back. -/
theorem BytesW_spec (h : WrAt w b most o) : Meets Tryd.prog 55 #[.pointer (some ⟨b, 0, none⟩)] w fun v w' => Same w w' ∧
    ((∃ out, o = some out ∧ v = .tuple #[.string (bs out), .nilIface]) ∨ (o = none ∧ ∃ t x, v = .tuple #[.string ⟨#[]⟩, .iface t x])) := by
  refine f55_ok ?_
  unfold f55
  rw [keq_ptr_nil ptWriter, kB_bool]
  refine kIf_of (fun h => by cases h) (fun _ => ?_)
  rw [kN_ptr]
  refine kfld_of ?_
  cases o with
  | none =>
    obtain ⟨t, y, hb⟩ := h
    refine kld_of (v := .iface t y) hb rfl ?_
    rw [keq_if_nil' ifErr, kB_bool, kIf_true, kN_ptr]
    refine kfld_of ?_
    refine kld_of (v := .iface t y) (show blk w.drew b = _ from hb) rfl ?_
    refine kG_of rfl ?_
    exact ⟨(Mod.refl _ _).drew, .inr ⟨rfl, t, y, rfl⟩⟩
  | some out =>
    obtain ⟨v, hb, ho, hne, hlen⟩ := h
    refine kld_of (v := .nilIface) hb rfl ?_
    rw [keq_nil_nil' ifErr, kB_bool, kIf_false]
    unfold f55_0
    rw [kN_ptr]
    refine kfld_of ?_
    refine kld_of (v := v) hb rfl ?_
    obtain ⟨a, c, rfl, hsl⟩ := own_sl ho
    refine ksem_bytes hsl ?_
    exact ⟨Mod.refl _ _, .inl ⟨out, rfl, rfl⟩⟩
end
/-- A writer's world over an older one: nothing of the older one changes. -/
structure Wx (w0 w : World) (b : Nat) : Prop where
  same : Same w0 w
  base : ∀ k, wfp w b k → w0.heap.size ≤ k
theorem Wx.step {w0 w w' : World} {b most : Nat} {o : Option (List UInt8)} (h : Wx w0 w b) (ht : WrTo w b most o w') : Wx w0 w' b :=
  ⟨Mod.after h.same ht.mod h.base, fun k hk => (ht.fresh k hk).elim (h.base k) fun h' => Nat.le_trans h.same.size h'⟩
theorem Wx.to {w0 w w' : World} {b most : Nat} {o : Option (List UInt8)} (h : Wx w0 w b) (hat : WrAt w b most o) (hm : Same w w') : Wx w0 w' b := h.step (WrTo.of_same hat hm)
theorem WrTo.keep {w w' : World} {b most : Nat} {o : Option (List UInt8)} (h : WrTo w b most o w') {k : Nat} {c : Obj} (hb : blk w k = some c) (hne : ¬ wfp w b k) : blk w' k = some c := h.mod.get hb hne

/-! ### Parts, beings and states as bytes -/
def trimN (p : Part) : Nat := if p.v3 ≠ 0 then 4 else if p.v2 ≠ 0 then 3 else if p.v1 ≠ 0 then 2 else if p.v0 ≠ 0 then 1 else 0
def Part.vals (p : Part) : List Int := [p.v0, p.v1, p.v2, p.v3]
def numsB (l : List Int) : List UInt8 := l.flatMap fun z => groupsF (zz z)
theorem numsB_snoc (l : List Int) (z : Int) : numsB (l ++ [z]) = numsB l ++ groupsF (zz z) := by simp [numsB]
def partB (p : Part) : List UInt8 := UInt8.ofNat (trimN p) :: (numsB (p.vals.take (trimN p)) ++ groupsF p.tick.toNat)
theorem trimN_le (p : Part) : trimN p ≤ 4 := by unfold trimN; (repeat' split) <;> omega
theorem trimN_zero (p : Part) (i : Nat) (h : trimN p ≤ i) (hi : i < 4) : p.vals[i]? = some 0 := by
  unfold trimN at h
  have : i = 0 ∨ i = 1 ∨ i = 2 ∨ i = 3 := by omega
  unfold Part.vals
  rcases this with rfl | rfl | rfl | rfl <;> (repeat' split at h) <;> simp_all
theorem trimN_last (p : Part) (n : Nat) (h : trimN p = n + 1) : ∃ z, p.vals[n]? = some z ∧ z ≠ 0 := by
  unfold trimN at h
  unfold Part.vals
  repeat' split at h
  · have : n = 3 := by omega
    subst this; exact ⟨_, rfl, by assumption⟩
  · have : n = 2 := by omega
    subst this; exact ⟨_, rfl, by assumption⟩
  · have : n = 1 := by omega
    subst this; exact ⟨_, rfl, by assumption⟩
  · have : n = 0 := by omega
    subst this; exact ⟨_, rfl, by assumption⟩
  · omega
theorem part_val (p : Part) (i : Nat) (hi : i < 4) : ∃ z, p.vals[i]? = some z ∧ p.cells[1 + i]? = some (.int .i64 z) := by
  have : i = 0 ∨ i = 1 ∨ i = 2 ∨ i = 3 := by omega
  rcases this with rfl | rfl | rfl | rfl <;> exact ⟨_, rfl, rfl⟩
theorem part_val_ok {p : Part} (hp : p.ok) {i : Nat} {z : Int} (h : p.vals[i]? = some z) : I64 z := by
  obtain ⟨_, h0, h1, h2, h3, _⟩ := hp
  have hm := List.mem_of_getElem? h
  simp only [Part.vals, List.mem_cons, List.not_mem_nil, or_false] at hm
  rcases hm with rfl | rfl | rfl | rfl <;> assumption
def TrInv (p : Part) (w4 : World) (x : Value) (wr : World) : Prop := ∃ n : Nat, trimN p ≤ n ∧ n ≤ 4 ∧ x = .int .i64 n ∧ wr = w4
def NumsInv (l : List Int) (b most : Nat) (o : Option (List UInt8)) (w4 : World) (x : Value) (wr : World) : Prop := ∃ i : Nat, i ≤ l.length ∧ x = .int .i64 i ∧ WrTo w4 b most (writeF most o (numsB (l.take i))) wr
set_option maxHeartbeats 1000000 in
theorem partW_spec {S : Nat → Addr} {w : World} (hL : LaidN 4 S w) {w0 : World} (hL0 : LaidN 4 S w0) {b : Nat} (hx : Wx w0 w b) {o : Option (List UInt8)} (h : WrAt w b 32768 o) (p : Part) (hp : p.ok) (ht : 0 ≤ p.tick) :
    Meets Tryd.prog 83 #[.agg #[.pointer (some ⟨b, 0, none⟩)], .agg p.cells.toArray] w fun v w' => WrTo w b 32768 (writeF 32768 o (partB p)) w' := by
  have hle4 := trimN_le p
  have htk2 : p.tick ≤ 9223372036854775807 := hp.2.2.2.2.2.2
  refine f83_ok ?_
  unfold f83
  refine knew_of fun w2 h2 hs2 hb1 => ?_
  refine knew_of fun w4 h4 hs4 hb3 => ?_
  have hb1 : blk w2 w.heap.size = some (.cells #[.pointer (some ⟨b, 0, none⟩)] 108) := hb1
  have hb3 : blk w4 w2.heap.size = some (.cells p.cells.toArray 73) := hb3
  have hb1 := h4.get hb1 (fun h => h)
  have h24 := h2.trans h4
  have hW4 := WrTo.of_same h h24
  have hx4 := hx.step hW4
  have hlt : ∀ k, wfp w4 b k → k < w.heap.size := fun k hk => h.wfp_lt (wfp_same h h24 (fun h => h) hk)
  have n1 : ¬ wfp w4 b w.heap.size := fun hk => by have := hlt _ hk; omega
  have n3 : ¬ wfp w4 b w2.heap.size := fun hk => by have := hlt _ hk; omega
  refine kL_of (TrInv p w4) (fun x _ => (RowKit.intOf x).toNat) ⟨⟨4, hle4, by omega, rfl, rfl⟩, ?_⟩
  rintro x wr ⟨n, hn1, hn2, rfl, rfl⟩
  have done : (n = trimN p) → f83_3 (.pointer (some ⟨w.heap.size, 0, none⟩)) (.pointer (some ⟨w2.heap.size, 0, none⟩)) (.int .i64 n) (fun v w' => WrTo w b 32768 (writeF 32768 o (partB p)) w') wr := by
    rintro rfl
    unfold f83_3
    refine kfld_of ?_
    refine kld_of (v := .pointer (some ⟨b, 0, none⟩)) hb1 rfl ?_
    refine kcall_of (ByteW_spec (hL.same h24) hW4.at' (by omega) (trimN p) (by omega)) ?_
    rintro v w16 h16
    refine kfld_of ?_
    refine ksl_arr_hi hle4 ?_
    rw [klen_slice]
    have hln' : trimN p = (p.vals.take (trimN p)).length := by rw [List.length_take]; simp [Part.vals]; omega
    rw [show ((trimN p : Nat) : Int) = ((p.vals.take (trimN p)).length : Int) by rw [← hln']]
    have hvl : (p.vals.take (trimN p)).length ≤ 4 := by rw [List.length_take]; simp [Part.vals]; omega
    have hst : WrTo wr b 32768 (writeF 32768 (writeF 32768 o [UInt8.ofNat (trimN p)]) (numsB ((p.vals.take (trimN p)).take 0))) w16 := by
      rw [List.take_zero, show numsB [] = [] from rfl, writeF_append, List.append_nil]; exact h16
    refine kL_of (NumsInv (p.vals.take (trimN p)) b 32768 (writeF 32768 o [UInt8.ofNat (trimN p)]) wr) (fun x _ => (p.vals.take (trimN p)).length - (RowKit.intOf x).toNat)
      ⟨⟨0, by omega, rfl, hst⟩, ?_⟩
    rintro x wq ⟨i, hi, rfl, hq⟩
    have hxq := hx4.step hq
    have hb1q := hq.keep hb1 n1
    have hb3q := hq.keep hb3 n3
    unfold f83_4
    rw [kint_lss, kB_bool]
    refine kIf_dec (fun hlt2 => ?_) (fun hge => ?_)
    · have hlt2 : i < (p.vals.take (trimN p)).length := by omega
      obtain ⟨z, hz1, hz2⟩ := part_val p i (by omega)
      have hzi : (p.vals.take (trimN p))[i]? = some z := by
        rw [List.getElem?_take_of_lt (by rw [List.length_take] at hlt2; omega)]; exact hz1
      have htk : (p.vals.take (trimN p)).take (i + 1) = (p.vals.take (trimN p)).take i ++ [z] := by
        rw [List.take_succ_eq_append_getElem hlt2]
        congr 2
        rw [List.getElem?_eq_getElem hlt2] at hzi
        exact Option.some.inj hzi
      unfold f83_5
      rw [kix_slice]
      refine kG_of (by omega) ?_
      have e1 : (i : Int).toNat * 1 = i := by omega
      rw [add_mk, e1]
      refine kld_of (v := .int .i64 z) hb3q (by simpa using hz2) ?_
      refine kfld_of ?_
      refine kld_of (v := .pointer (some ⟨b, 0, none⟩)) hb1q rfl ?_
      refine kcall_of (NumW_spec (hL0.same hxq.same) hq.at' (by omega) z (part_val_ok hp hz1)) ?_
      rintro v w27 h27
      unfold f83_6
      rw [kint_add, i64_succ (by omega)]
      refine ⟨⟨i + 1, by omega, rfl, ?_⟩, by simp only [RowKit.intOf, Int.toNat_natCast]; omega⟩
      rw [htk, numsB_snoc, ← writeF_append]
      exact hq.trans h27
    · have : i = (p.vals.take (trimN p)).length := by omega
      subst this
      rw [List.take_length] at hq
      unfold f83_7
      refine kfld_of ?_
      refine kld_of (v := .pointer (some ⟨b, 0, none⟩)) hb1q rfl ?_
      refine kfld_of ?_
      refine kld_of (v := .int .i64 p.tick) hb3q rfl ?_
      refine kcall_of (CountW_spec (hL0.same hxq.same) hq.at' (by omega) p.tick ht htk2) ?_
      rintro v w34 h34
      have := hW4.trans (hq.trans h34)
      rw [writeF_append, writeF_append] at this
      exact this
  unfold f83_0
  rw [kint_gtr, kB_bool]
  refine kIf_dec (fun hgt => ?_) (fun hle => ?_)
  · have hgt : 0 < n := by omega
    obtain ⟨z, hz1, hz2⟩ := part_val p (n - 1) (by omega)
    rw [kint_sub, wrap_i64 (by omega) (by omega)]
    refine kfld_of ?_
    rw [kix_array]
    refine kG_of (by omega) ?_
    have e1 : ((n : Int) - 1).toNat * 1 = n - 1 := by omega
    rw [add_mk, e1, Nat.zero_add]
    refine kld_of (v := .int .i64 z) hb3 (by simpa using hz2) ?_
    rw [kint_eql]
    unfold f83_1
    rw [kB_bool]
    refine kIf_dec (fun h0 => ?_) (fun h0 => ?_)
    · have hne : trimN p ≠ n := fun e => by
        obtain ⟨z', h1, h2⟩ := trimN_last p (n - 1) (by omega)
        rw [hz1] at h1
        exact h2 (by rw [← Option.some.inj h1]; exact h0)
      unfold f83_2
      rw [kint_sub, wrap_i64 (by omega) (by omega)]
      exact ⟨⟨n - 1, by omega, by omega, by congr 1; omega, rfl⟩, by simp [RowKit.intOf]; omega⟩
    · refine done ?_
      by_cases e : n = trimN p
      · exact e
      · have := trimN_zero p (n - 1) (by omega) (by omega)
        rw [hz1] at this
        exact absurd (Option.some.inj this) h0
  · unfold f83_1
    rw [kB_bool, kIf_false]
    exact done (by omega)
end Go.Proofs.YtcabkicjboedaaaDoor
end
section
namespace Go.Proofs.YtcabkicjboedaaaDoor
open Go Go.Ev
set_option linter.unusedVariables false
set_option linter.unusedSimpArgs false
set_option maxRecDepth 100000

theorem isFrameF_iff {n : Int} (h : isFrameF n = true) : 0 ≤ n ∧ n ≤ 1073741824 := by
  unfold isFrameF at h
  simpa using h
theorem partsGood_all : ∀ (l : List Part) (last : Int), partsGood last l = true → ∀ p ∈ l, last < p.comp ∧ p.comp < 16 ∧ 0 ≤ p.tick ∧ p.tick ≤ 1073741824
  | [], _, _, p, hp => by cases hp
  | q :: r, last, h, p, hp => by
    unfold partsGood at h
    simp only [Bool.and_eq_true, decide_eq_true_eq] at h
    obtain ⟨h1, h2, h3, h4⟩ := h
    rcases List.mem_cons.1 hp with rfl | hp
    · exact ⟨h1, h2, isFrameF_iff h3⟩
    · have := partsGood_all r q.comp h4 p hp
      exact ⟨by omega, this.2⟩
theorem partsGood_len : ∀ (l : List Part) (last : Int), -1 ≤ last → last ≤ 15 → partsGood last l = true → (l.length : Int) ≤ 15 - last
  | [], last, _, h, _ => by simp; omega
  | q :: r, last, h0, h1, h => by
    unfold partsGood at h
    simp only [Bool.and_eq_true, decide_eq_true_eq] at h
    obtain ⟨g1, g2, g3, g4⟩ := h
    have := partsGood_len r q.comp (by omega) (by omega) g4
    simp only [List.length_cons]; omega
def beingB (last : Int) (b : BM) : List UInt8 := groupsF (b.id - last).toNat ++ (groupsF (hasF b.parts) ++ b.parts.flatMap partB)
def MaskInv (l : List Part) (w4 : World) (x6 x14 : Value) (wr : World) : Prop := ∃ i : Nat, i ≤ l.length ∧ x14 = .int .i64 i ∧ x6 = msk (hasF (l.take i)) ∧ Same w4 wr
def PartsBInv (l : List Part) (b : Nat) (o : Option (List UInt8)) (w4 : World) (x : Value) (wr : World) : Prop := ∃ i : Nat, i ≤ l.length ∧ x = .int .i64 i ∧ WrTo w4 b 32768 (writeF 32768 o ((l.take i).flatMap partB)) wr
theorem writeF_nil {w w' : World} {b : Nat} {o : Option (List UInt8)} (h : WrTo w b 32768 o w') : WrTo w b 32768 (writeF 32768 o []) w' := by
  have hat := h.at'
  have e : writeF 32768 o [] = o := by
    cases o with
    | none => rfl
    | some out =>
      obtain ⟨v, _, _, _, hl⟩ := hat
      unfold writeF
      simp only [List.length_nil, List.append_nil]
      rw [if_neg (by omega)]
  rw [e]; exact h
set_option maxHeartbeats 1000000 in
theorem beingW_spec {S : Nat → Addr} {w w0 : World} (hL0 : LaidN 4 S w0) {b : Nat} (hx : Wx w0 w b) {o : Option (List UInt8)} (h : WrAt w b 32768 o) (q : BV) (hq : q.ok w0) (last : Int) (hl0 : 0 ≤ last) (hl1 : last ≤ q.id) (hgood : partsGood (-1) q.parts = true) :
    Meets Tryd.prog 54 #[.agg #[.pointer (some ⟨b, 0, none⟩)], .agg q.cells.toArray, .int .i64 last] w fun v w' => WrTo w b 32768 (writeF 32768 o (beingB last q.m)) w' := by
  obtain ⟨hid, hpok, hsl⟩ := hq
  have hall := partsGood_all q.parts (-1) hgood
  have hplen := partsGood_len q.parts (-1) (by omega) (by omega) hgood
  obtain ⟨hid1, hid2⟩ := hid
  refine f54_ok ?_
  unfold f54
  refine knew_of fun w2 h2 hs2 hb1 => ?_
  refine knew_of fun w4 h4 hs4 hb3 => ?_
  have hb1 : blk w2 w.heap.size = some (.cells #[.pointer (some ⟨b, 0, none⟩)] 108) := hb1
  have hb3 : blk w4 w2.heap.size = some (.cells q.cells.toArray 85) := hb3
  have hb1 := h4.get hb1 (fun h => h)
  have h24 := h2.trans h4
  have hW4 := WrTo.of_same h h24
  have hx4 := hx.step hW4
  have hlt : ∀ k, wfp w4 b k → k < w.heap.size := fun k hk => h.wfp_lt (wfp_same h h24 (fun h => h) hk)
  have n1 : ¬ wfp w4 b w.heap.size := fun hk => by have := hlt _ hk; omega
  have n3 : ¬ wfp w4 b w2.heap.size := fun hk => by have := hlt _ hk; omega
  refine kfld_of ?_
  refine kld_of (v := .slice q.pa q.parts.length q.pc) hb3 rfl ?_
  rw [klen_slice]
  refine kL_of (MaskInv q.parts w4) (fun _ x _ => q.parts.length - (RowKit.intOf x).toNat) ⟨⟨0, by omega, rfl, by simp [hasF, msk], Mod.refl _ _⟩, ?_⟩
  rintro x6 x14 wr ⟨i, hi, rfl, rfl, hm⟩
  unfold f54_0
  rw [kint_lss, kB_bool]
  refine kIf_dec (fun hlt2 => ?_) (fun hge => ?_)
  · have hlt2 : i < q.parts.length := by omega
    have htk : q.parts.take (i + 1) = q.parts.take i ++ [q.parts[i]] := List.take_succ_eq_append_getElem hlt2
    have hpc := (hpok q.parts[i] (List.getElem_mem hlt2)).1
    unfold f54_1
    refine kixldN_of (F := Part.cells) (fun _ => rfl) (by omega) ((hsl.same hx4.same).same hm) hlt2 rfl ?_
    generalize q.parts[i] = p at *
    refine knew_of fun w7 h7 hs7 hb7 => ?_
    refine kst_of (vs := p.cells) hb7 rfl rfl rfl (by simp) (by simp [Part.cells]) fun w8 h8 hs8 hb8 => ?_
    have hb8 : blk w8 wr.heap.size = some (.cells p.cells.toArray 73) := hb8
    refine kfld_of ?_
    refine kld_of (v := .int .i64 p.comp) hb8 rfl ?_
    refine kcall_of (with_spec _ _ (hasF_lt _) hpc.1 hpc.2 _) ?_
    rintro v w9 ⟨rfl, rfl⟩
    unfold f54_2
    rw [kint_add, i64_succ (by omega)]
    exact ⟨⟨i + 1, by omega, rfl, by rw [htk, hasF_snoc], hm.trans (Mod.after h7 h8 (fun b hb => by omega))⟩, by simp [RowKit.intOf]; omega⟩
  · have : i = q.parts.length := by omega
    subst this
    rw [List.take_length]
    have hWr := hW4.trans (WrTo.of_same hW4.at' hm)
    have hWr4 := WrTo.of_same hW4.at' hm
    have hxr := hx4.step hWr4
    have hb1r := hm.get hb1 (fun h => h)
    have hb3r := hm.get hb3 (fun h => h)
    unfold f54_3
    refine kfld_of ?_
    refine kld_of (v := .pointer (some ⟨b, 0, none⟩)) hb1r rfl ?_
    refine kfld_of ?_
    refine kld_of (v := .int .i64 q.id) hb3r rfl ?_
    rw [kint_sub, wrap_i64 (by omega) (by omega)]
    refine kcall_of (CountW_spec (hL0.same hxr.same) hWr4.at' (by omega) (q.id - last) (by omega) (by omega)) ?_
    rintro v w26 h26
    have h26 := hWr4.trans h26
    have hx26 := hx4.step h26
    refine kfld_of ?_
    refine kld_of (v := .pointer (some ⟨b, 0, none⟩)) (h26.keep hb1 n1) rfl ?_
    refine kcall_of (BitsW_spec (hL0.same hx26.same) h26.at' (by omega) (hasF q.parts) (hasF_lt _)) ?_
    rintro v w30 h30
    have h30 := h26.trans h30
    have hx30 := hx4.step h30
    refine kfld_of ?_
    refine kld_of (v := .slice q.pa q.parts.length q.pc) (h30.keep hb3 n3) rfl ?_
    rw [klen_slice, writeF_append] at *
    refine kL_of (PartsBInv q.parts b (writeF 32768 o (groupsF (q.id - last).toNat ++ groupsF (hasF q.parts))) w4) (fun x _ => q.parts.length - (RowKit.intOf x).toNat) ⟨⟨0, by omega, rfl, writeF_nil h30⟩, ?_⟩
    rintro x wq ⟨i, hi, rfl, hq⟩
    have hxq := hx4.step hq
    have hb1q := hq.keep hb1 n1
    unfold f54_4
    rw [kint_lss, kB_bool]
    refine kIf_dec (fun hlt2 => ?_) (fun hge => ?_)
    · have hlt2 : i < q.parts.length := by omega
      have htk : q.parts.take (i + 1) = q.parts.take i ++ [q.parts[i]] := List.take_succ_eq_append_getElem hlt2
      have hpk := hpok q.parts[i] (List.getElem_mem hlt2)
      have hpa := hall q.parts[i] (List.getElem_mem hlt2)
      unfold f54_5
      refine kixldN_of (F := Part.cells) (fun _ => rfl) (by omega) (hsl.same hxq.same) hlt2 rfl ?_
      generalize q.parts[i] = p at *
      refine knew_of fun w7 h7 hs7 hb7 => ?_
      refine kst_of (vs := p.cells) hb7 rfl rfl rfl (by simp) (by simp [Part.cells]) fun w8 h8 hs8 hb8 => ?_
      have hb8 : blk w8 wq.heap.size = some (.cells p.cells.toArray 73) := hb8
      have hm8 : Same wq w8 := Mod.after h7 h8 (fun b hb => by omega)
      have hq8 := hq.trans (WrTo.of_same hq.at' hm8)
      refine kldN_of (cs := [.pointer (some ⟨b, 0, none⟩)]) (hm8.get hb1q (fun h => h)) (by simp) rfl (by omega) ?_
      refine kldN_of (cs := p.cells) hb8 (by simp [Part.cells]) rfl (by omega) ?_
      refine kcall_of (partW_spec (hL0.same (hx4.step hq8).same) hL0 (hx4.step hq8) hq8.at' p hpk hpa.2.2.1) ?_
      rintro v w44 h44
      unfold f54_6
      rw [kint_add, i64_succ (by omega)]
      refine ⟨⟨i + 1, by omega, rfl, ?_⟩, by simp [RowKit.intOf]; omega⟩
      have e : (q.parts.take (i + 1)).flatMap partB = (q.parts.take i).flatMap partB ++ partB p := by rw [htk]; simp
      rw [e, ← writeF_append]
      exact hq8.trans h44
    · have : i = q.parts.length := by omega
      subst this
      rw [List.take_length, writeF_append] at hq
      have := hW4.trans hq
      unfold beingB BV.m
      simp only
      rw [← List.append_assoc]
      exact this
end Go.Proofs.YtcabkicjboedaaaDoor
end
section
namespace Go.Proofs.YtcabkicjboedaaaDoor
open Go Go.Ev
set_option linter.unusedVariables false
set_option linter.unusedSimpArgs false
set_option maxRecDepth 100000

def beingsB : Int → List BM → List UInt8
  | _, [] => []
  | last, b :: r => beingB last b ++ beingsB b.id r
def lastId : Int → List BM → Int
  | last, [] => last
  | _, b :: r => lastId b.id r
theorem beingsB_snoc : ∀ (l : List BM) (last : Int) (b : BM), beingsB last (l ++ [b]) = beingsB last l ++ beingB (lastId last l) b
  | [], last, b => by simp [beingsB, lastId]
  | x :: l, last, b => by simp [beingsB, lastId, beingsB_snoc l x.id b]
theorem lastId_snoc : ∀ (l : List BM) (last : Int) (b : BM), lastId last (l ++ [b]) = b.id
  | [], last, b => rfl
  | x :: l, last, b => by simp [lastId, lastId_snoc l x.id b]
theorem beingsGood_at (next : Int) : ∀ (l : List BM) (last : Int) (i : Nat) (h : i < l.length), 0 ≤ last → beingsGood next last l = true →
    lastId last (l.take i) < (l[i]).id ∧ (l[i]).id < next ∧ partsGood (-1) (l[i]).parts = true ∧ 0 ≤ lastId last (l.take i)
  | [], last, i, h, _, _ => by simp at h
  | x :: l, last, 0, h, h0, hg => by
    unfold beingsGood at hg
    simp only [Bool.and_eq_true, decide_eq_true_eq] at hg
    exact ⟨hg.1, hg.2.1, hg.2.2.1, h0⟩
  | x :: l, last, i + 1, h, h0, hg => by
    unfold beingsGood at hg
    simp only [Bool.and_eq_true, decide_eq_true_eq] at hg
    have := beingsGood_at next l x.id i (by simpa using h) (by omega) hg.2.2.2
    simpa [lastId] using this
theorem goodF_of {m : SM} (h : goodF m = true) : 0 ≤ m.frame ∧ m.frame ≤ 1073741824 ∧ 1 ≤ m.next ∧ m.next ≤ 1073741825 ∧ m.beings.length ≤ 64 ∧ m.res.length ≤ 8 ∧ beingsGood m.next 0 m.beings = true := by
  unfold goodF at h
  simp only [Bool.and_eq_true, decide_eq_true_eq] at h
  obtain ⟨h1, h2, h3, h4, h5, h6⟩ := h
  have h1 := isFrameF_iff h1
  have h3 := isFrameF_iff h3
  exact ⟨h1.1, h1.2, h2, by omega, h4, h5, h6⟩
def bytesF (m : SM) : List UInt8 := groupsF m.frame.toNat ++ (groupsF m.next.toNat ++ (groupsF (zz m.seed) ++ (groupsF m.res.length ++ (numsB m.res ++ (groupsF m.beings.length ++ beingsB 0 m.beings)))))
def BytesPost (m : SM) (w : World) (v : Value) (w' : World) : Prop :=
  Same w w' ∧ ((goodF m = true ∧ (bytesF m).length ≤ 32768 ∧ v = .tuple #[.string (bs (bytesF m)), .nilIface]) ∨ ((goodF m = false ∨ 32768 < (bytesF m).length) ∧ ∃ t x, v = .tuple #[.string (bs []), .iface t x]))
def ResBInv (l : List Int) (b : Nat) (o : Option (List UInt8)) (w4 : World) (x : Value) (wr : World) : Prop := ∃ i : Nat, i ≤ l.length ∧ x = .int .i64 i ∧ WrTo w4 b 32768 (writeF 32768 o (numsB (l.take i))) wr
def BgsBInv (l : List BM) (b : Nat) (o : Option (List UInt8)) (w4 : World) (x7 x : Value) (wr : World) : Prop :=
  ∃ i : Nat, i ≤ l.length ∧ x = .int .i64 i ∧ x7 = .int .i64 (lastId 0 (l.take i)) ∧ WrTo w4 b 32768 (writeF 32768 o (beingsB 0 (l.take i))) wr
set_option maxHeartbeats 2000000 in
theorem Bytes_spec {S : Nat → Addr} {w : World} (hL : LaidN 4 S w) (s : SV) (hs : s.ok w) (hn : ∀ b ∈ s.bl, b.parts.length ≤ 4611686018427387904) :
    Meets Tryd.prog 22 #[s.val] w (BytesPost s.m w) := by
  refine f22_ok ?_
  unfold f22
  refine knew_of fun w2 h2 hs2 hb1 => ?_
  have hb1 : blk w2 w.heap.size = some (.cells s.cells.toArray 55) := hb1
  refine kldN_of (cs := s.cells) hb1 (by simp [SV.cells]) rfl (by omega) ?_
  refine kcall_of (Good_spec s (hs.same h2) hn) ?_
  rintro v w5 ⟨rfl, h5⟩
  have h5' := h2.trans h5
  have hb1 := h5.get hb1 (fun h => h)
  rw [kun_not, kB_bool]
  refine kIf_of (fun hbad => ?_) (fun hgood => ?_)
  · have hbad : goodF s.m = false := by simpa using hbad
    refine kld_err (hL.same h5') (k := 1) (by omega) (by omega) rfl rfl ?_
    refine kcall_of (wrong_spec _ _ w5) ?_
    rintro v w9 ⟨rfl, _, h9⟩
    exact ⟨h5'.trans h9, .inr ⟨.inl hbad, _, _, rfl⟩⟩
  have hgood : goodF s.m = true := by simpa using hgood
  obtain ⟨g1, g2, g3, g4, g5, g6, g7⟩ := goodF_of hgood
  obtain ⟨hfr, hnx, hsd, hrl, hbl, hba, hra⟩ := hs
  have hblen : s.m.beings.length = s.bl.length := List.length_map ..
  have hrlen : s.m.res.length = s.rl.length := rfl
  unfold f22_0
  refine kcall_of (NewWriter_spec w5) ?_
  rintro v w11 ⟨rfl, hat, h11, hbase⟩
  refine kbld_of (cs := [.pointer (some ⟨w5.heap.size, 0, none⟩)]) rfl ?_
  refine knew_of fun w14 h14 hs14 hb13 => ?_
  refine kst_of (vs := [.pointer (some ⟨w5.heap.size, 0, none⟩)]) hb13 rfl rfl rfl (by simp) (by simp) fun w15 h15 hs15 hb15 => ?_
  have hb15 : blk w15 w11.heap.size = some (.cells #[.pointer (some ⟨w5.heap.size, 0, none⟩)] 108) := hb15
  have h1115 : Same w11 w15 := Mod.after h14 h15 (fun b hb => by omega)
  have hat15 := hat.mod h1115 (fun _ _ h => h)
  have hb1 := h1115.get (h11.get hb1 (fun h => h)) (fun h => h)
  have hx15 : Wx w w15 w5.heap.size := ⟨(h5'.trans h11).trans h1115, fun k hk => by
    have := hbase k (wfp_same hat h1115 (fun h => h) hk)
    have := h5'.size
    omega⟩
  have hlt5 := lt_of_blk hb1
  have n1 : ¬ wfp w15 w5.heap.size w.heap.size := fun hk => by
    have := hbase _ (wfp_same hat h1115 (fun h => h) hk)
    have := h5.size
    omega
  have n13 : ¬ wfp w15 w5.heap.size w11.heap.size := fun hk => by
    have := hat.wfp_lt (wfp_same hat h1115 (fun h => h) hk)
    omega
  generalize hbW : w5.heap.size = bW at *
  have t0 : WrTo w15 bW 32768 (writeF 32768 (some []) []) w15 := writeF_nil ⟨hat15, Mod.refl _ _, fun k hk => .inl hk⟩
  have lds : ∀ {wq : World} {o : Option (List UInt8)}, WrTo w15 bW 32768 o wq → blk wq w.heap.size = some (.cells s.cells.toArray 55) := fun ht => ht.keep hb1 n1
  have ldp : ∀ {wq : World} {o : Option (List UInt8)}, WrTo w15 bW 32768 o wq → blk wq w11.heap.size = some (.cells #[.pointer (some ⟨bW, 0, none⟩)] 108) := fun ht => ht.keep hb15 n13
  have ldL : ∀ {wq : World} {o : Option (List UInt8)}, WrTo w15 bW 32768 o wq → LaidN 4 S wq := fun ht => hL.same (hx15.step ht).same
  refine kfld_of ?_
  refine kld_of (v := .pointer (some ⟨bW, 0, none⟩)) hb15 rfl ?_
  refine kfld_of ?_
  refine kld_of (v := .int .i64 s.frame) hb1 rfl ?_
  refine kcall_of (CountW_spec (ldL t0) t0.at' (by omega) s.frame g1 hfr.2) ?_
  rintro v w21 t1
  have t1 := t0.trans t1
  rw [writeF_append, List.nil_append] at t1
  refine kfld_of ?_
  refine kld_of (v := .pointer (some ⟨bW, 0, none⟩)) (ldp t1) rfl ?_
  refine kfld_of ?_
  refine kld_of (v := .int .i64 s.next) (lds t1) rfl ?_
  refine kcall_of (CountW_spec (ldL t1) t1.at' (by omega) s.next (by have : 1 ≤ s.next := g3; omega) hnx.2) ?_
  rintro v w27 t2
  have t2 := t1.trans t2
  rw [writeF_append] at t2
  refine kfld_of ?_
  refine kld_of (v := .pointer (some ⟨bW, 0, none⟩)) (ldp t2) rfl ?_
  refine kfld_of ?_
  refine kld_of (v := .int .i64 s.seed) (lds t2) rfl ?_
  refine kcall_of (NumW_spec (ldL t2) t2.at' (by omega) s.seed hsd) ?_
  rintro v w33 t3
  have t3 := t2.trans t3
  rw [writeF_append] at t3
  refine kfld_of ?_
  refine kld_of (v := .pointer (some ⟨bW, 0, none⟩)) (ldp t3) rfl ?_
  refine kfld_of ?_
  refine kld_of (v := .slice s.ra s.rl.length s.rc) (lds t3) rfl ?_
  rw [klen_slice]
  refine kcall_of (CountW_spec (ldL t3) t3.at' (by omega) s.rl.length (by omega) (by omega)) ?_
  rintro v w41 t4
  have t4 := t3.trans t4
  rw [writeF_append, Int.toNat_natCast] at t4
  refine kfld_of ?_
  refine kld_of (v := .slice s.ra s.rl.length s.rc) (lds t4) rfl ?_
  rw [klen_slice]
  generalize hpre : ((groupsF s.frame.toNat ++ groupsF s.next.toNat) ++ groupsF (zz s.seed)) ++ groupsF s.rl.length = pre at *
  refine kL_of (ResBInv s.rl bW (writeF 32768 (some []) pre) w15) (fun x _ => s.rl.length - (RowKit.intOf x).toNat) ⟨⟨0, by omega, rfl, writeF_nil t4⟩, ?_⟩
  rintro x wr ⟨i, hi, rfl, tq⟩
  unfold f22_1
  rw [kint_lss, kB_bool]
  refine kIf_dec (fun hlt => ?_) (fun hge => ?_)
  · have hlt : i < s.rl.length := by omega
    have htk : s.rl.take (i + 1) = s.rl.take i ++ [s.rl[i]] := List.take_succ_eq_append_getElem hlt
    have hri := hrl s.rl[i] (List.getElem_mem hlt)
    unfold f22_2
    refine kixld_of (F := intV) (hra.same (hx15.step tq).same) hlt rfl ?_
    generalize s.rl[i] = z at *
    refine kfld_of ?_
    refine kld_of (v := .pointer (some ⟨bW, 0, none⟩)) (ldp tq) rfl ?_
    refine kcall_of (NumW_spec (ldL tq) tq.at' (by omega) z hri) ?_
    rintro v w52 t5
    unfold f22_3
    rw [kint_add, i64_succ (by omega)]
    refine ⟨⟨i + 1, by omega, rfl, ?_⟩, by simp [RowKit.intOf]; omega⟩
    rw [htk, numsB_snoc, ← writeF_append]
    exact tq.trans t5
  · have : i = s.rl.length := by omega
    subst this
    rw [List.take_length, writeF_append] at tq
    unfold f22_4
    refine kfld_of ?_
    refine kld_of (v := .pointer (some ⟨bW, 0, none⟩)) (ldp tq) rfl ?_
    refine kfld_of ?_
    refine kld_of (v := .slice s.ba s.bl.length s.bc) (lds tq) rfl ?_
    rw [klen_slice]
    refine kcall_of (CountW_spec (ldL tq) tq.at' (by omega) s.bl.length (by omega) (by omega)) ?_
    rintro v w61 t6
    have t6 := tq.trans t6
    rw [writeF_append, Int.toNat_natCast] at t6
    refine kfld_of ?_
    refine kld_of (v := .slice s.ba s.bl.length s.bc) (lds t6) rfl ?_
    rw [klen_slice]
    have hml : (s.bl.map BV.m).length = s.bl.length := List.length_map ..
    refine kL_of (BgsBInv (s.bl.map BV.m) bW (writeF 32768 (some []) ((pre ++ numsB s.rl) ++ groupsF s.bl.length)) w15) (fun _ x _ => s.bl.length - (RowKit.intOf x).toNat) ⟨⟨0, by omega, rfl, rfl, writeF_nil t6⟩, ?_⟩
    rintro x7 x wq ⟨j, hj, rfl, rfl, tq2⟩
    unfold f22_5
    rw [kint_lss, kB_bool]
    refine kIf_dec (fun hlt => ?_) (fun hge => ?_)
    · have hlt : j < s.bl.length := by omega
      have htk : (s.bl.map BV.m).take (j + 1) = (s.bl.map BV.m).take j ++ [s.bl[j].m] := by rw [List.take_succ_eq_append_getElem (by omega)]; simp
      have hbj := hbl s.bl[j] (List.getElem_mem hlt)
      have hgj := beingsGood_at s.next (s.bl.map BV.m) 0 j (by omega) (by omega) g7
      rw [List.getElem_map] at hgj
      unfold f22_6
      refine kixldN_of (F := BV.cells) (fun _ => rfl) (by omega) (hba.same (hx15.step tq2).same) hlt rfl ?_
      generalize s.bl[j] = q at *
      refine knew_of fun w7 h7 hs7 hb7 => ?_
      refine kst_of (vs := q.cells) hb7 rfl rfl rfl (by simp) (by simp [BV.cells]) fun w8 h8 hs8 hb8 => ?_
      have hb8 : blk w8 wq.heap.size = some (.cells q.cells.toArray 85) := hb8
      have hm8 : Same wq w8 := Mod.after h7 h8 (fun b hb => by omega)
      have t8 := WrTo.of_same tq2.at' hm8
      have tq8 := tq2.trans t8
      refine kldN_of (cs := [.pointer (some ⟨bW, 0, none⟩)]) (ldp tq8) (by simp) rfl (by omega) ?_
      refine kldN_of (cs := q.cells) hb8 (by simp [BV.cells]) rfl (by omega) ?_
      refine kcall_of (beingW_spec hL (hx15.step tq8) tq8.at' q hbj (lastId 0 ((s.bl.map BV.m).take j)) hgj.2.2.2 (by have := hgj.1; have : q.m.id = q.id := rfl; omega) hgj.2.2.1) ?_
      rintro v w75 t75
      have hb75 := t75.keep hb8 (fun hk => by have := tq2.at'.wfp_lt (wfp_same tq2.at' hm8 (fun h => h) hk); omega)
      refine kfld_of ?_
      refine kld_of (v := .int .i64 q.id) hb75 rfl ?_
      unfold f22_7
      rw [kint_add, i64_succ (by omega)]
      refine ⟨⟨j + 1, by omega, rfl, ?_, ?_⟩, by simp [RowKit.intOf]; omega⟩
      · rw [htk, lastId_snoc]; rfl
      · rw [htk, beingsB_snoc, ← writeF_append]
        exact tq8.trans t75
    · have : j = s.bl.length := by omega
      subst this
      rw [List.take_of_length_le (by omega), writeF_append] at tq2
      have htot : ((pre ++ numsB s.rl) ++ groupsF s.bl.length) ++ beingsB 0 (s.bl.map BV.m) = bytesF s.m := by
        rw [← hpre]
        unfold bytesF SV.m
        simp only [List.append_assoc, List.length_map]
      rw [htot] at tq2
      have hsame := (hx15.step tq2).same
      unfold f22_8
      refine kfld_of ?_
      refine kld_of (v := .pointer (some ⟨bW, 0, none⟩)) (ldp tq2) rfl ?_
      refine kcall_of (BytesW_spec tq2.at') ?_
      rintro v w82 ⟨h82, hv⟩
      have hwf : writeF 32768 (some []) (bytesF s.m) = if 32768 < (bytesF s.m).length then none else some (bytesF s.m) := by
        unfold writeF; simp
      rw [hwf] at hv
      rcases hv with ⟨out, ho, rfl⟩ | ⟨ho, t, x, rfl⟩
      · have hle : ¬ 32768 < (bytesF s.m).length := fun h => by rw [if_pos h] at ho; cases ho
        rw [if_neg hle] at ho
        cases ho
        refine kext_of (v := .string (bs (bytesF s.m))) rfl ?_
        refine kext_of (v := .nilIface) rfl ?_
        rw [keq_nil_nil' ifErr, kB_bool, kIf_false]
        unfold f22_9
        exact ⟨hsame.trans h82, .inl ⟨hgood, by omega, rfl⟩⟩
      · have hgt : 32768 < (bytesF s.m).length := by
          by_cases h : 32768 < (bytesF s.m).length
          · exact h
          · rw [if_neg h] at ho; cases ho
        refine kext_of (v := .string ⟨#[]⟩) rfl ?_
        refine kext_of (v := .iface t x) rfl ?_
        rw [keq_if_nil' ifErr, kB_bool, kIf_true]
        refine kcall_of (wrong_spec _ _ w82) ?_
        rintro v w88 ⟨rfl, _, h88⟩
        exact ⟨(hsame.trans h82).trans h88, .inr ⟨.inr hgt, _, _, rfl⟩⟩
end Go.Proofs.YtcabkicjboedaaaDoor
end
section
namespace Go.Proofs.YtcabkicjboedaaaDoor
open Go Go.Ev
set_option linter.unusedVariables false
set_option maxRecDepth 100000

/-! pasodoble/world.Same -/
def f23 (x0 : Value) (x1 : Value) (Q : Value → World → Prop) (w : World) : Prop :=
  knew (Value.cells x0) 55 w fun v1 w2 =>
  knew (Value.cells x1) 55 w2 fun v3 w4 =>
  kfld 0 v1 fun v5 =>
  kld v5 w4 fun v6 =>
  kfld 0 v3 fun v7 =>
  kld v7 w4 fun v8 =>
  kint .i64 .eql v6 v8 fun v9 =>
  kB v9 fun b10 => kIf b10
  (kfld 1 v1 fun v11 =>
  kld v11 w4 fun v12 =>
  kfld 1 v3 fun v13 =>
  kld v13 w4 fun v14 =>
  kint .i64 .eql v12 v14 fun v15 =>
  kB v15 fun b16 => kIf b16
  (kfld 2 v1 fun v17 =>
  kld v17 w4 fun v18 =>
  kfld 2 v3 fun v19 =>
  kld v19 w4 fun v20 =>
  kint .i64 .eql v18 v20 fun v21 =>
  kB v21 fun b22 => kIf b22
  (kfld 3 v1 fun v23 =>
  kld v23 w4 fun v24 =>
  kfld 3 v3 fun v25 =>
  kld v25 w4 fun v26 =>
  kcall Tryd.prog 58 #[v24, v26, (.func (.func 56) #[] #[])] w4 fun v27 w28 =>
  kB v27 fun b29 => kIf b29
  (kfld 4 v1 fun v30 =>
  kld v30 w28 fun v31 =>
  kfld 4 v3 fun v32 =>
  kld v32 w28 fun v33 =>
  kcall Tryd.prog 59 #[v31, v33] w28 fun v34 w35 =>
  Q v34 w35)
  (Q (.bool false) w28))
  (Q (.bool false) w4))
  (Q (.bool false) w4))
  (Q (.bool false) w4)

theorem f23_eq (x0 : Value) (x1 : Value) (Q : Value → World → Prop) (w : World) : f23 x0 x1 Q w = fnVC Tryd.prog Tryd.f23 [] (Tryd.f23.body.get rfl) [x0, x1] w Q := by kernel_rfl
theorem f23_ok {x0 : Value} {x1 : Value} {Q : Value → World → Prop} {w : World} (h : f23 x0 x1 Q w) : Meets Tryd.prog 23 #[x0, x1] w Q :=
  sound (c := (Tryd.f23.body.get rfl)) [] Tryd.func23 rfl rfl (args := [x0, x1]) rfl (Eq.mp (f23_eq x0 x1 Q w) h)

/-! pasodoble/world.Same$1 -/
def f56 (x0 : Value) (x1 : Value) (Q : Value → World → Prop) (w : World) : Prop :=
  knew (Value.cells x0) 85 w fun v1 w2 =>
  knew (Value.cells x1) 85 w2 fun v3 w4 =>
  kfld 0 v1 fun v5 =>
  kld v5 w4 fun v6 =>
  kfld 0 v3 fun v7 =>
  kld v7 w4 fun v8 =>
  kint .i64 .eql v6 v8 fun v9 =>
  kB v9 fun b10 => kIf b10
  (kfld 1 v1 fun v11 =>
  kld v11 w4 fun v12 =>
  kfld 1 v3 fun v13 =>
  kld v13 w4 fun v14 =>
  kcall Tryd.prog 57 #[v12, v14] w4 fun v15 w16 =>
  Q v15 w16)
  (Q (.bool false) w4)

theorem f56_eq (x0 : Value) (x1 : Value) (Q : Value → World → Prop) (w : World) : f56 x0 x1 Q w = fnVC Tryd.prog Tryd.f56 [] (Tryd.f56.body.get rfl) [x0, x1] w Q := by kernel_rfl
theorem f56_ok {x0 : Value} {x1 : Value} {Q : Value → World → Prop} {w : World} (h : f56 x0 x1 Q w) : Meets Tryd.prog 56 #[x0, x1] w Q :=
  sound (c := (Tryd.f56.body.get rfl)) [] Tryd.func56 rfl rfl (args := [x0, x1]) rfl (Eq.mp (f56_eq x0 x1 Q w) h)

/-! slices.Equal[[]pasodoble/api.Part,pasodoble/api.Part] -/
def f57_3 (x0 : Value) (x1 : Value) (x12 : Value) (x13 : Value) (J4 : Value → World → Prop) (Q : Value → World → Prop) (w : World) : Prop :=
  kint .i64 .add x13 (.int .i64 1) fun v15 =>
  J4 v15 w

def f57_2 (x0 : Value) (x1 : Value) (x12 : Value) (x13 : Value) (J4 : Value → World → Prop) (Q : Value → World → Prop) (w : World) : Prop :=
  kix (some (.slice 73)) (some 6) x0 x13 fun v9 =>
  kldN 6 v9 w.drew fun v10 =>
  kG (w.drew = w.drew) <|
  kix (some (.slice 73)) (some 6) x1 x13 fun v11 =>
  kldN 6 v11 w.drew fun v12 =>
  kG (w.drew = w.drew) <|
  keq Tryd.prog .neq 73 false false v10 v12 w.drew fun v13 w14 =>
  kG (w14 = w.drew) <|
  kB v13 fun b16 => kIf b16
  (Q (.bool false) w14)
  (f57_3 x0 x1 x12 x13 J4 Q w14)

def f57_4 (Q : Value → World → Prop) (w : World) : Prop :=
  Q (.bool true) w

def f57_1 (x13 : Value) (x0 : Value) (x1 : Value) (x12 : Value) (J4 : Value → World → Prop) (Q : Value → World → Prop) (w : World) : Prop :=
  kint .i64 .lss x13 x12 fun v8 =>
  kB v8 fun b17 => kIf b17
  (f57_2 x0 x1 x12 x13 J4 Q w)
  (f57_4 Q w)

def f57_0 (x0 : Value) (x1 : Value) (Q : Value → World → Prop) (w : World) : Prop :=
  klen x0 fun v6 =>
  kL fun (I : Value → World → Prop) (μ : Value → World → Nat) => I (.int .i64 0) w ∧ ∀ (x13 : Value) (w1 : World), I x13 w1 →
  f57_1 x13 x0 x1 v6 (fun y13 w2 => I y13 w2 ∧ μ y13 w2 < μ x13 w1) Q w1

def f57 (x0 : Value) (x1 : Value) (Q : Value → World → Prop) (w : World) : Prop :=
  klen x0 fun v1 =>
  klen x1 fun v3 =>
  kint .i64 .neq v1 v3 fun v5 =>
  kB v5 fun b18 => kIf b18
  (Q (.bool false) w)
  (f57_0 x0 x1 Q w)

theorem f57_eq (x0 : Value) (x1 : Value) (Q : Value → World → Prop) (w : World) : f57 x0 x1 Q w = fnVC Tryd.prog Tryd.f57 [(4, [13])] (Tryd.f57.body.get rfl) [x0, x1] w Q := by kernel_rfl
theorem f57_ok {x0 : Value} {x1 : Value} {Q : Value → World → Prop} {w : World} (h : f57 x0 x1 Q w) : Meets Tryd.prog 57 #[x0, x1] w Q :=
  sound (c := (Tryd.f57.body.get rfl)) [(4, [13])] Tryd.func57 rfl rfl (args := [x0, x1]) rfl (Eq.mp (f57_eq x0 x1 Q w) h)

/-! slices.EqualFunc[[]pasodoble/api.Being,[]pasodoble/api.Being,pasodoble/api.Being,pasodoble/api.Being] -/
def f58_3 (x1 : Value) (x2 : Value) (x15 : Value) (x16 : Value) (x17 : Value) (J4 : Value → World → Prop) (Q : Value → World → Prop) (w : World) : Prop :=
  kint .i64 .add x17 (.int .i64 1) fun v24 =>
  J4 v24 w

def f58_2 (x1 : Value) (x2 : Value) (x15 : Value) (x16 : Value) (x17 : Value) (J4 : Value → World → Prop) (Q : Value → World → Prop) (w : World) : Prop :=
  kix (some (.slice 85)) (some 2) x15 x17 fun v9 =>
  kldN 2 v9 w fun v10 =>
  knew #[(.int .i64 0), (.slice none 0 0)] 85 w fun v11 w12 =>
  kst 2 v11 v10 w12 fun w13 =>
  kix (some (.slice 85)) (some 2) x1 x17 fun v14 =>
  kldN 2 v14 w13 fun v15 =>
  knew #[(.int .i64 0), (.slice none 0 0)] 85 w13 fun v16 w17 =>
  kst 2 v16 v15 w17 fun w18 =>
  kldN 2 v11 w18 fun v19 =>
  kldN 2 v16 w18 fun v20 =>
  kcallV Tryd.prog x2 [v19, v20] w18 fun v21 w22 =>
  kun .not (some .bool) v21 fun v23 =>
  kB v23 fun b25 => kIf b25
  (Q (.bool false) w22)
  (f58_3 x1 x2 x15 x16 x17 J4 Q w22)

def f58_4 (Q : Value → World → Prop) (w : World) : Prop :=
  Q (.bool true) w

def f58_1 (x17 : Value) (x1 : Value) (x2 : Value) (x15 : Value) (x16 : Value) (J4 : Value → World → Prop) (Q : Value → World → Prop) (w : World) : Prop :=
  kint .i64 .lss x17 x16 fun v8 =>
  kB v8 fun b26 => kIf b26
  (f58_2 x1 x2 x15 x16 x17 J4 Q w)
  (f58_4 Q w)

def f58_0 (x0 : Value) (x1 : Value) (x2 : Value) (Q : Value → World → Prop) (w : World) : Prop :=
  klen x0 fun v6 =>
  kL fun (I : Value → World → Prop) (μ : Value → World → Nat) => I (.int .i64 0) w ∧ ∀ (x17 : Value) (w1 : World), I x17 w1 →
  f58_1 x17 x1 x2 x0 v6 (fun y17 w2 => I y17 w2 ∧ μ y17 w2 < μ x17 w1) Q w1

def f58 (x0 : Value) (x1 : Value) (x2 : Value) (Q : Value → World → Prop) (w : World) : Prop :=
  klen x0 fun v1 =>
  klen x1 fun v3 =>
  kint .i64 .neq v1 v3 fun v5 =>
  kB v5 fun b27 => kIf b27
  (Q (.bool false) w)
  (f58_0 x0 x1 x2 Q w)

theorem f58_eq (x0 : Value) (x1 : Value) (x2 : Value) (Q : Value → World → Prop) (w : World) : f58 x0 x1 x2 Q w = fnVC Tryd.prog Tryd.f58 [(4, [17])] (Tryd.f58.body.get rfl) [x0, x1, x2] w Q := by kernel_rfl
theorem f58_ok {x0 : Value} {x1 : Value} {x2 : Value} {Q : Value → World → Prop} {w : World} (h : f58 x0 x1 x2 Q w) : Meets Tryd.prog 58 #[x0, x1, x2] w Q :=
  sound (c := (Tryd.f58.body.get rfl)) [(4, [17])] Tryd.func58 rfl rfl (args := [x0, x1, x2]) rfl (Eq.mp (f58_eq x0 x1 x2 Q w) h)

/-! slices.Equal[[]int,int] -/
def f59_3 (x0 : Value) (x1 : Value) (x12 : Value) (x13 : Value) (J4 : Value → World → Prop) (Q : Value → World → Prop) (w : World) : Prop :=
  kint .i64 .add x13 (.int .i64 1) fun v14 =>
  J4 v14 w

def f59_2 (x0 : Value) (x1 : Value) (x12 : Value) (x13 : Value) (J4 : Value → World → Prop) (Q : Value → World → Prop) (w : World) : Prop :=
  kix (some (.slice 3)) (some 1) x0 x13 fun v9 =>
  kld v9 w.drew fun v10 =>
  kG (w.drew = w.drew) <|
  kix (some (.slice 3)) (some 1) x1 x13 fun v11 =>
  kld v11 w.drew fun v12 =>
  kG (w.drew = w.drew) <|
  kint .i64 .neq v10 v12 fun v13 =>
  kB v13 fun b15 => kIf b15
  (Q (.bool false) w.drew)
  (f59_3 x0 x1 x12 x13 J4 Q w.drew)

def f59_4 (Q : Value → World → Prop) (w : World) : Prop :=
  Q (.bool true) w

def f59_1 (x13 : Value) (x0 : Value) (x1 : Value) (x12 : Value) (J4 : Value → World → Prop) (Q : Value → World → Prop) (w : World) : Prop :=
  kint .i64 .lss x13 x12 fun v8 =>
  kB v8 fun b16 => kIf b16
  (f59_2 x0 x1 x12 x13 J4 Q w)
  (f59_4 Q w)

def f59_0 (x0 : Value) (x1 : Value) (Q : Value → World → Prop) (w : World) : Prop :=
  klen x0 fun v6 =>
  kL fun (I : Value → World → Prop) (μ : Value → World → Nat) => I (.int .i64 0) w ∧ ∀ (x13 : Value) (w1 : World), I x13 w1 →
  f59_1 x13 x0 x1 v6 (fun y13 w2 => I y13 w2 ∧ μ y13 w2 < μ x13 w1) Q w1

def f59 (x0 : Value) (x1 : Value) (Q : Value → World → Prop) (w : World) : Prop :=
  klen x0 fun v1 =>
  klen x1 fun v3 =>
  kint .i64 .neq v1 v3 fun v5 =>
  kB v5 fun b17 => kIf b17
  (Q (.bool false) w)
  (f59_0 x0 x1 Q w)

theorem f59_eq (x0 : Value) (x1 : Value) (Q : Value → World → Prop) (w : World) : f59 x0 x1 Q w = fnVC Tryd.prog Tryd.f59 [(4, [13])] (Tryd.f59.body.get rfl) [x0, x1] w Q := by kernel_rfl
theorem f59_ok {x0 : Value} {x1 : Value} {Q : Value → World → Prop} {w : World} (h : f59 x0 x1 Q w) : Meets Tryd.prog 59 #[x0, x1] w Q :=
  sound (c := (Tryd.f59.body.get rfl)) [(4, [13])] Tryd.func59 rfl rfl (args := [x0, x1]) rfl (Eq.mp (f59_eq x0 x1 Q w) h)

/-! pasodoble/seal.beings -/
def f60_3 (x1 : Value) (x14 : Value) (x15 : Value) (x16 : Value) (J5 : Value → World → Prop) (Q : Value → World → Prop) (w : World) : Prop :=
  kint .i64 .add x16 (.int .i64 1) fun v25 =>
  J5 v25 w

def f60_2 (x1 : Value) (x14 : Value) (x15 : Value) (x16 : Value) (J5 : Value → World → Prop) (Q : Value → World → Prop) (w : World) : Prop :=
  kix (some (.slice 85)) (some 2) x14 x16 fun v7 =>
  kldN 2 v7 w fun v8 =>
  knew #[(.int .i64 0), (.slice none 0 0)] 85 w fun v9 w10 =>
  kst 2 v9 v8 w10 fun w11 =>
  kfld 1 v9 fun v12 =>
  kld v12 w11.drew fun v13 =>
  kG (w11.drew = w11.drew) <|
  kix (some (.slice 85)) (some 2) x1 x16 fun v14 =>
  kfld 1 v14 fun v15 =>
  kld v15 w11.drew fun v16 =>
  kG (w11.drew = w11.drew) <|
  kcall Tryd.prog 57 #[v13, v16] w11.drew fun v17 w18 =>
  kun .not (some .bool) v17 fun v19 =>
  kB v19 fun b26 => kIf b26
  (kfld 0 v9 fun v20 =>
  kld v20 w18 fun v21 =>
  kcall Tryd.prog 85 #[v21] w18 fun v22 w23 =>
  kstr .add (.string ⟨#[98, 101, 105, 110, 103, 32]⟩) v22 fun v24 =>
  Q (.tuple #[v24, (.bool true)]) w23)
  (f60_3 x1 x14 x15 x16 J5 Q w18)

def f60_4 (Q : Value → World → Prop) (w : World) : Prop :=
  Q (.tuple #[(.string ⟨#[]⟩), (.bool false)]) w

def f60_1 (x16 : Value) (x1 : Value) (x14 : Value) (x15 : Value) (J5 : Value → World → Prop) (Q : Value → World → Prop) (w : World) : Prop :=
  kint .i64 .lss x16 x15 fun v6 =>
  kB v6 fun b27 => kIf b27
  (f60_2 x1 x14 x15 x16 J5 Q w)
  (f60_4 Q w)

def f60_0 (x0 : Value) (x1 : Value) (Q : Value → World → Prop) (w : World) : Prop :=
  klen x0 fun v4 =>
  kL fun (I : Value → World → Prop) (μ : Value → World → Nat) => I (.int .i64 0) w ∧ ∀ (x16 : Value) (w1 : World), I x16 w1 →
  f60_1 x16 x1 x0 v4 (fun y16 w2 => I y16 w2 ∧ μ y16 w2 < μ x16 w1) Q w1

def f60 (x0 : Value) (x1 : Value) (Q : Value → World → Prop) (w : World) : Prop :=
  kcall Tryd.prog 58 #[x0, x1, (.func (.func 84) #[] #[])] w fun v1 w2 =>
  kun .not (some .bool) v1 fun v3 =>
  kB v3 fun b28 => kIf b28
  (Q (.tuple #[(.string ⟨#[98, 101, 105, 110, 103, 115]⟩), (.bool true)]) w2)
  (f60_0 x0 x1 Q w2)

theorem f60_eq (x0 : Value) (x1 : Value) (Q : Value → World → Prop) (w : World) : f60 x0 x1 Q w = fnVC Tryd.prog Tryd.f60 [(5, [16])] (Tryd.f60.body.get rfl) [x0, x1] w Q := by kernel_rfl
theorem f60_ok {x0 : Value} {x1 : Value} {Q : Value → World → Prop} {w : World} (h : f60 x0 x1 Q w) : Meets Tryd.prog 60 #[x0, x1] w Q :=
  sound (c := (Tryd.f60.body.get rfl)) [(5, [16])] Tryd.func60 rfl rfl (args := [x0, x1]) rfl (Eq.mp (f60_eq x0 x1 Q w) h)

/-! pasodoble/seal.beings$1 -/
def f84 (x0 : Value) (x1 : Value) (Q : Value → World → Prop) (w : World) : Prop :=
  knew (Value.cells x0) 85 w fun v1 w2 =>
  knew (Value.cells x1) 85 w2 fun v3 w4 =>
  kfld 0 v1 fun v5 =>
  kld v5 w4 fun v6 =>
  kfld 0 v3 fun v7 =>
  kld v7 w4 fun v8 =>
  kint .i64 .eql v6 v8 fun v9 =>
  Q v9 w4

theorem f84_eq (x0 : Value) (x1 : Value) (Q : Value → World → Prop) (w : World) : f84 x0 x1 Q w = fnVC Tryd.prog Tryd.f84 [] (Tryd.f84.body.get rfl) [x0, x1] w Q := by kernel_rfl
theorem f84_ok {x0 : Value} {x1 : Value} {Q : Value → World → Prop} {w : World} (h : f84 x0 x1 Q w) : Meets Tryd.prog 84 #[x0, x1] w Q :=
  sound (c := (Tryd.f84.body.get rfl)) [] Tryd.func84 rfl rfl (args := [x0, x1]) rfl (Eq.mp (f84_eq x0 x1 Q w) h)

/-! pasodoble/seal.Differs -/
def f24_0 (x2 : Value) (x3 : Value) (Q : Value → World → Prop) (w : World) : Prop :=
  kfld 3 x2 fun v31 =>
  kld v31 w fun v32 =>
  kfld 3 x3 fun v33 =>
  kld v33 w fun v34 =>
  kcall Tryd.prog 60 #[v32, v34] w fun v35 w36 =>
  kext v35 0 fun v37 =>
  kext v35 1 fun v38 =>
  Q (.tuple #[v37, v38]) w36

def f24 (x0 : Value) (x1 : Value) (Q : Value → World → Prop) (w : World) : Prop :=
  knew (Value.cells x0) 55 w fun v1 w2 =>
  knew (Value.cells x1) 55 w2 fun v3 w4 =>
  kldN 5 v1 w4 fun v5 =>
  kldN 5 v3 w4 fun v6 =>
  kcall Tryd.prog 23 #[v5, v6] w4 fun v7 w8 =>
  kB v7 fun b43 => kIf b43
  (Q (.tuple #[(.string ⟨#[]⟩), (.bool false)]) w8)
  (kfld 0 v1 fun v9 =>
  kld v9 w8 fun v10 =>
  kfld 0 v3 fun v11 =>
  kld v11 w8 fun v12 =>
  kint .i64 .neq v10 v12 fun v13 =>
  kB v13 fun b42 => kIf b42
  (Q (.tuple #[(.string ⟨#[102, 114, 97, 109, 101]⟩), (.bool true)]) w8)
  (kfld 1 v1 fun v14 =>
  kld v14 w8 fun v15 =>
  kfld 1 v3 fun v16 =>
  kld v16 w8 fun v17 =>
  kint .i64 .neq v15 v17 fun v18 =>
  kB v18 fun b41 => kIf b41
  (Q (.tuple #[(.string ⟨#[110, 101, 120, 116]⟩), (.bool true)]) w8)
  (kfld 2 v1 fun v19 =>
  kld v19 w8 fun v20 =>
  kfld 2 v3 fun v21 =>
  kld v21 w8 fun v22 =>
  kint .i64 .neq v20 v22 fun v23 =>
  kB v23 fun b40 => kIf b40
  (Q (.tuple #[(.string ⟨#[115, 101, 101, 100]⟩), (.bool true)]) w8)
  (kfld 4 v1 fun v24 =>
  kld v24 w8 fun v25 =>
  kfld 4 v3 fun v26 =>
  kld v26 w8 fun v27 =>
  kcall Tryd.prog 59 #[v25, v27] w8 fun v28 w29 =>
  kun .not (some .bool) v28 fun v30 =>
  kB v30 fun b39 => kIf b39
  (Q (.tuple #[(.string ⟨#[114, 101, 115, 111, 117, 114, 99, 101, 115]⟩), (.bool true)]) w29)
  (f24_0 v1 v3 Q w29)))))

theorem f24_eq (x0 : Value) (x1 : Value) (Q : Value → World → Prop) (w : World) : f24 x0 x1 Q w = fnVC Tryd.prog Tryd.f24 [] (Tryd.f24.body.get rfl) [x0, x1] w Q := by kernel_rfl
theorem f24_ok {x0 : Value} {x1 : Value} {Q : Value → World → Prop} {w : World} (h : f24 x0 x1 Q w) : Meets Tryd.prog 24 #[x0, x1] w Q :=
  sound (c := (Tryd.f24.body.get rfl)) [] Tryd.func24 rfl rfl (args := [x0, x1]) rfl (Eq.mp (f24_eq x0 x1 Q w) h)

/-! pasodoble/pasodobleref22.Good -/
def f19_9 (x1 : Value) (x3 : Value) (x4 : Value) (x5 : Value) (J10 : Value → World → Prop) (J4 : Value → World → Prop) (Q : Value → World → Prop) (w : World) : Prop :=
  kint .i64 .add x5 (.int .i64 1) fun v102 =>
  J10 v102 w

def f19_8 (x1 : Value) (x3 : Value) (x4 : Value) (x5 : Value) (x120 : Value) (J10 : Value → World → Prop) (J4 : Value → World → Prop) (Q : Value → World → Prop) (w : World) : Prop :=
  kB x120 fun b103 => kIf b103
  (Q (.bool false) w)
  (f19_9 x1 x3 x4 x5 J10 J4 Q w)

def f19_7 (x1 : Value) (x3 : Value) (x4 : Value) (x5 : Value) (J10 : Value → World → Prop) (J4 : Value → World → Prop) (Q : Value → World → Prop) (w : World) : Prop :=
  kfld 1 x4 fun v68 =>
  kld v68 w fun v69 =>
  kix (some (.slice 73)) (some 6) v69 x5 fun v70 =>
  kldN 6 v70 w fun v71 =>
  knew #[(.int .i64 0), (.int .i64 0), (.int .i64 0), (.int .i64 0), (.int .i64 0), (.int .i64 0)] 73 w fun v72 w73 =>
  kst 6 v72 v71 w73 fun w74 =>
  kfld 0 v72 fun v75 =>
  kld v75 w74.drew fun v76 =>
  kG (w74.drew = w74.drew) <|
  kint .i64 .lss v76 (.int .i64 0) fun v77 =>
  kB v77 fun b78 => kIf (!b78)
  (kfld 0 v72 fun v79 =>
  kld v79 w74.drew fun v80 =>
  kG (w74.drew = w74.drew) <|
  kint .i64 .gtr v80 (.int .i64 15) fun v81 =>
  kB v81 fun b82 => kIf (!b82)
  (kint .i64 .gtr x5 (.int .i64 0) fun v83 =>
  kB v83 fun b84 => kIf b84
  (kfld 1 x4 fun v85 =>
  kld v85 w74.drew fun v86 =>
  kG (w74.drew = w74.drew) <|
  kint .i64 .sub x5 (.int .i64 1) fun v87 =>
  kix (some (.slice 73)) (some 6) v86 v87 fun v88 =>
  kfld 0 v88 fun v89 =>
  kld v89 w74.drew fun v90 =>
  kG (w74.drew = w74.drew) <|
  kfld 0 v72 fun v91 =>
  kld v91 w74.drew fun v92 =>
  kG (w74.drew = w74.drew) <|
  kint .i64 .geq v90 v92 fun v93 =>
  kB v93 fun b94 => kIf (!b94)
  (kfld 5 v72 fun v95 =>
  kld v95 w74.drew fun v96 =>
  kG (w74.drew = w74.drew) <|
  kint .i64 .lss v96 (.int .i64 0) fun v97 =>
  kB v97 fun b98 => kIf (!b98)
  (kfld 5 v72 fun v99 =>
  kld v99 w74.drew fun v100 =>
  kG (w74.drew = w74.drew) <|
  kint .i64 .gtr v100 (.int .i64 1073741824) fun v101 =>
  f19_8 x1 x3 x4 x5 v101 J10 J4 Q w74.drew)
  (f19_8 x1 x3 x4 x5 (.bool true) J10 J4 Q w74.drew))
  (f19_8 x1 x3 x4 x5 (.bool true) J10 J4 Q w74.drew))
  (kfld 5 v72 fun v104 =>
  kld v104 w74.drew fun v105 =>
  kG (w74.drew = w74.drew) <|
  kint .i64 .lss v105 (.int .i64 0) fun v106 =>
  kB v106 fun b107 => kIf (!b107)
  (kfld 5 v72 fun v108 =>
  kld v108 w74.drew fun v109 =>
  kG (w74.drew = w74.drew) <|
  kint .i64 .gtr v109 (.int .i64 1073741824) fun v110 =>
  f19_8 x1 x3 x4 x5 v110 J10 J4 Q w74.drew)
  (f19_8 x1 x3 x4 x5 (.bool true) J10 J4 Q w74.drew)))
  (f19_8 x1 x3 x4 x5 (.bool true) J10 J4 Q w74.drew))
  (f19_8 x1 x3 x4 x5 (.bool true) J10 J4 Q w74.drew)

def f19_10 (x1 : Value) (x3 : Value) (J4 : Value → World → Prop) (Q : Value → World → Prop) (w : World) : Prop :=
  kint .i64 .add x3 (.int .i64 1) fun v111 =>
  J4 v111 w

def f19_6 (x5 : Value) (x1 : Value) (x3 : Value) (x4 : Value) (J10 : Value → World → Prop) (J4 : Value → World → Prop) (Q : Value → World → Prop) (w : World) : Prop :=
  kfld 1 x4 fun v63 =>
  kld v63 w fun v64 =>
  klen v64 fun v65 =>
  kint .i64 .lss x5 v65 fun v67 =>
  kB v67 fun b112 => kIf b112
  (f19_7 x1 x3 x4 x5 J10 J4 Q w)
  (f19_10 x1 x3 J4 Q w)

def f19_5 (x1 : Value) (x3 : Value) (x4 : Value) (J4 : Value → World → Prop) (Q : Value → World → Prop) (w : World) : Prop :=
  kL fun (I : Value → World → Prop) (μ : Value → World → Nat) => I (.int .i64 0) w ∧ ∀ (x5 : Value) (w1 : World), I x5 w1 →
  f19_6 x5 x1 x3 x4 (fun y5 w2 => I y5 w2 ∧ μ y5 w2 < μ x5 w1) J4 Q w1

def f19_4 (x1 : Value) (x3 : Value) (x4 : Value) (x74 : Value) (J4 : Value → World → Prop) (Q : Value → World → Prop) (w : World) : Prop :=
  kB x74 fun b113 => kIf b113
  (Q (.bool false) w)
  (f19_5 x1 x3 x4 J4 Q w)

def f19_3 (x1 : Value) (x3 : Value) (J4 : Value → World → Prop) (Q : Value → World → Prop) (w : World) : Prop :=
  kfld 3 x1 fun v35 =>
  kld v35 w fun v36 =>
  kix (some (.slice 85)) (some 2) v36 x3 fun v37 =>
  kldN 2 v37 w fun v38 =>
  knew #[(.int .i64 0), (.slice none 0 0)] 85 w fun v39 w40 =>
  kst 2 v39 v38 w40 fun w41 =>
  kfld 0 v39 fun v42 =>
  kld v42 w41.drew fun v43 =>
  kG (w41.drew = w41.drew) <|
  kint .i64 .lss v43 (.int .i64 1) fun v44 =>
  kB v44 fun b45 => kIf (!b45)
  (kfld 0 v39 fun v46 =>
  kld v46 w41.drew fun v47 =>
  kG (w41.drew = w41.drew) <|
  kfld 1 x1 fun v48 =>
  kld v48 w41.drew fun v49 =>
  kG (w41.drew = w41.drew) <|
  kint .i64 .geq v47 v49 fun v50 =>
  kB v50 fun b51 => kIf (!b51)
  (kint .i64 .gtr x3 (.int .i64 0) fun v52 =>
  kB v52 fun b53 => kIf b53
  (kfld 3 x1 fun v54 =>
  kld v54 w41.drew fun v55 =>
  kG (w41.drew = w41.drew) <|
  kint .i64 .sub x3 (.int .i64 1) fun v56 =>
  kix (some (.slice 85)) (some 2) v55 v56 fun v57 =>
  kfld 0 v57 fun v58 =>
  kld v58 w41.drew fun v59 =>
  kG (w41.drew = w41.drew) <|
  kfld 0 v39 fun v60 =>
  kld v60 w41.drew fun v61 =>
  kG (w41.drew = w41.drew) <|
  kint .i64 .geq v59 v61 fun v62 =>
  f19_4 x1 x3 v39 v62 J4 Q w41.drew)
  (f19_4 x1 x3 v39 (.bool false) J4 Q w41.drew))
  (f19_4 x1 x3 v39 (.bool true) J4 Q w41.drew))
  (f19_4 x1 x3 v39 (.bool true) J4 Q w41.drew)

def f19_11 (Q : Value → World → Prop) (w : World) : Prop :=
  Q (.bool true) w

def f19_2 (x3 : Value) (x1 : Value) (J4 : Value → World → Prop) (Q : Value → World → Prop) (w : World) : Prop :=
  kfld 3 x1 fun v30 =>
  kld v30 w fun v31 =>
  klen v31 fun v32 =>
  kint .i64 .lss x3 v32 fun v34 =>
  kB v34 fun b114 => kIf b114
  (f19_3 x1 x3 J4 Q w)
  (f19_11 Q w)

def f19_1 (x1 : Value) (Q : Value → World → Prop) (w : World) : Prop :=
  kL fun (I : Value → World → Prop) (μ : Value → World → Nat) => I (.int .i64 0) w ∧ ∀ (x3 : Value) (w1 : World), I x3 w1 →
  f19_2 x3 x1 (fun y3 w2 => I y3 w2 ∧ μ y3 w2 < μ x3 w1) Q w1

def f19_0 (x1 : Value) (x36 : Value) (Q : Value → World → Prop) (w : World) : Prop :=
  kB x36 fun b115 => kIf b115
  (Q (.bool false) w)
  (f19_1 x1 Q w)

def f19 (x0 : Value) (Q : Value → World → Prop) (w : World) : Prop :=
  knew (Value.cells x0) 55 w fun v1 w2 =>
  kfld 0 v1 fun v3 =>
  kld v3 w2 fun v4 =>
  kint .i64 .lss v4 (.int .i64 0) fun v5 =>
  kB v5 fun b6 => kIf (!b6)
  (kfld 0 v1 fun v7 =>
  kld v7 w2 fun v8 =>
  kint .i64 .gtr v8 (.int .i64 1073741824) fun v9 =>
  kB v9 fun b10 => kIf (!b10)
  (kfld 1 v1 fun v11 =>
  kld v11 w2 fun v12 =>
  kint .i64 .lss v12 (.int .i64 1) fun v13 =>
  kB v13 fun b14 => kIf (!b14)
  (kfld 1 v1 fun v15 =>
  kld v15 w2 fun v16 =>
  kint .i64 .gtr v16 (.int .i64 1073741825) fun v17 =>
  kB v17 fun b18 => kIf (!b18)
  (kfld 3 v1 fun v19 =>
  kld v19 w2 fun v20 =>
  klen v20 fun v21 =>
  kint .i64 .gtr v21 (.int .i64 64) fun v23 =>
  kB v23 fun b24 => kIf (!b24)
  (kfld 4 v1 fun v25 =>
  kld v25 w2 fun v26 =>
  klen v26 fun v27 =>
  kint .i64 .gtr v27 (.int .i64 8) fun v29 =>
  f19_0 v1 v29 Q w2)
  (f19_0 v1 (.bool true) Q w2))
  (f19_0 v1 (.bool true) Q w2))
  (f19_0 v1 (.bool true) Q w2))
  (f19_0 v1 (.bool true) Q w2))
  (f19_0 v1 (.bool true) Q w2)

theorem f19_eq (x0 : Value) (Q : Value → World → Prop) (w : World) : f19 x0 Q w = fnVC Tryd.prog Tryd.f19 [(4, [3]), (10, [5])] (Tryd.f19.body.get rfl) [x0] w Q := by kernel_rfl
theorem f19_ok {x0 : Value} {Q : Value → World → Prop} {w : World} (h : f19 x0 Q w) : Meets Tryd.prog 19 #[x0] w Q :=
  sound (c := (Tryd.f19.body.get rfl)) [(4, [3]), (10, [5])] Tryd.func19 rfl rfl (args := [x0]) rfl (Eq.mp (f19_eq x0 Q w) h)

/-! pasodoble/pasodobleref22.Bytes -/
def f20_2 (x1 : Value) (x3 : Value) (x4 : Value) (J3 : Value → Value → World → Prop) (Q : Value → World → Prop) (w : World) : Prop :=
  kint .i64 .add x4 (.int .i64 1) fun v36 =>
  J3 x3 v36 w

def f20_1 (x1 : Value) (x3 : Value) (x4 : Value) (J3 : Value → Value → World → Prop) (Q : Value → World → Prop) (w : World) : Prop :=
  kfld 4 x1 fun v29 =>
  kld v29 w fun v30 =>
  kix (some (.slice 3)) (some 1) v30 x4 fun v31 =>
  kld v31 w fun v32 =>
  kcall Tryd.prog 49 #[v32] w fun v33 w34 =>
  kstr .add x3 v33 fun v35 =>
  f20_2 x1 v35 x4 J3 Q w34

def f20_10 (x1 : Value) (x3 : Value) (x5 : Value) (x6 : Value) (x7 : Value) (x8 : Value) (x9 : Value) (J18 : Value → World → Prop) (J15 : Value → Value → World → Prop) (J9 : Value → Value → Value → World → Prop) (Q : Value → World → Prop) (w : World) : Prop :=
  kint .i64 .sub x9 (.int .i64 1) fun v87 =>
  J18 v87 w

def f20_14 (x1 : Value) (x3 : Value) (x5 : Value) (x6 : Value) (x7 : Value) (x8 : Value) (x9 : Value) (x10 : Value) (J22 : Value → Value → World → Prop) (J15 : Value → Value → World → Prop) (J9 : Value → Value → Value → World → Prop) (Q : Value → World → Prop) (w : World) : Prop :=
  kint .i64 .add x10 (.int .i64 1) fun v104 =>
  J22 x3 v104 w

def f20_13 (x1 : Value) (x3 : Value) (x5 : Value) (x6 : Value) (x7 : Value) (x8 : Value) (x9 : Value) (x10 : Value) (J22 : Value → Value → World → Prop) (J15 : Value → Value → World → Prop) (J9 : Value → Value → Value → World → Prop) (Q : Value → World → Prop) (w : World) : Prop :=
  kfld 1 x7 fun v95 =>
  kld v95 w fun v96 =>
  kix (some (.slice 73)) (some 6) v96 x8 fun v97 =>
  kfld 1 v97 fun v98 =>
  kix (some (.array 4 3)) (some 1) v98 x10 fun v99 =>
  kld v99 w fun v100 =>
  kcall Tryd.prog 49 #[v100] w fun v101 w102 =>
  kstr .add x3 v101 fun v103 =>
  f20_14 x1 v103 x5 x6 x7 x8 x9 x10 J22 J15 J9 Q w102

def f20_16 (x1 : Value) (x3 : Value) (x5 : Value) (x6 : Value) (x7 : Value) (x8 : Value) (J15 : Value → Value → World → Prop) (J9 : Value → Value → Value → World → Prop) (Q : Value → World → Prop) (w : World) : Prop :=
  kint .i64 .add x8 (.int .i64 1) fun v113 =>
  J15 x3 v113 w

def f20_15 (x1 : Value) (x3 : Value) (x5 : Value) (x6 : Value) (x7 : Value) (x8 : Value) (J15 : Value → Value → World → Prop) (J9 : Value → Value → Value → World → Prop) (Q : Value → World → Prop) (w : World) : Prop :=
  kfld 1 x7 fun v105 =>
  kld v105 w fun v106 =>
  kix (some (.slice 73)) (some 6) v106 x8 fun v107 =>
  kfld 5 v107 fun v108 =>
  kld v108 w fun v109 =>
  kcall Tryd.prog 48 #[v109] w fun v110 w111 =>
  kstr .add x3 v110 fun v112 =>
  f20_16 x1 v112 x5 x6 x7 x8 J15 J9 Q w111

def f20_12 (x3 : Value) (x10 : Value) (x1 : Value) (x5 : Value) (x6 : Value) (x7 : Value) (x8 : Value) (x9 : Value) (J22 : Value → Value → World → Prop) (J15 : Value → Value → World → Prop) (J9 : Value → Value → Value → World → Prop) (Q : Value → World → Prop) (w : World) : Prop :=
  kint .i64 .lss x10 x9 fun v94 =>
  kB v94 fun b114 => kIf b114
  (f20_13 x1 x3 x5 x6 x7 x8 x9 x10 J22 J15 J9 Q w)
  (f20_15 x1 x3 x5 x6 x7 x8 J15 J9 Q w)

def f20_11 (x1 : Value) (x3 : Value) (x5 : Value) (x6 : Value) (x7 : Value) (x8 : Value) (x9 : Value) (J15 : Value → Value → World → Prop) (J9 : Value → Value → Value → World → Prop) (Q : Value → World → Prop) (w : World) : Prop :=
  kcnv .u8 x9 fun v88 =>
  kbldS [(.int .u8 0)] 1 [(0, 1, v88)] 5 w fun v89 w90 =>
  ksem Tryd.prog (convert 104 9 v89) w90 fun v91 w92 =>
  kstr .add x3 v91 fun v93 =>
  kL fun (I : Value → Value → World → Prop) (μ : Value → Value → World → Nat) => I v93 (.int .i64 0) w92 ∧ ∀ (x3 x10 : Value) (w1 : World), I x3 x10 w1 →
  f20_12 x3 x10 x1 x5 x6 x7 x8 x9 (fun y3 y10 w2 => I y3 y10 w2 ∧ μ y3 y10 w2 < μ x3 x10 w1) J15 J9 Q w1

def f20_9 (x1 : Value) (x3 : Value) (x5 : Value) (x6 : Value) (x7 : Value) (x8 : Value) (x9 : Value) (x95 : Value) (J18 : Value → World → Prop) (J15 : Value → Value → World → Prop) (J9 : Value → Value → Value → World → Prop) (Q : Value → World → Prop) (w : World) : Prop :=
  kB x95 fun b115 => kIf b115
  (f20_10 x1 x3 x5 x6 x7 x8 x9 J18 J15 J9 Q w)
  (f20_11 x1 x3 x5 x6 x7 x8 x9 J15 J9 Q w)

def f20_8 (x9 : Value) (x1 : Value) (x3 : Value) (x5 : Value) (x6 : Value) (x7 : Value) (x8 : Value) (J18 : Value → World → Prop) (J15 : Value → Value → World → Prop) (J9 : Value → Value → Value → World → Prop) (Q : Value → World → Prop) (w : World) : Prop :=
  kint .i64 .gtr x9 (.int .i64 0) fun v77 =>
  kB v77 fun b78 => kIf b78
  (kfld 1 x7 fun v79 =>
  kld v79 w fun v80 =>
  kint .i64 .sub x9 (.int .i64 1) fun v81 =>
  kix (some (.slice 73)) (some 6) v80 x8 fun v82 =>
  kfld 1 v82 fun v83 =>
  kix (some (.array 4 3)) (some 1) v83 v81 fun v84 =>
  kld v84 w fun v85 =>
  kint .i64 .eql v85 (.int .i64 0) fun v86 =>
  f20_9 x1 x3 x5 x6 x7 x8 x9 v86 J18 J15 J9 Q w)
  (f20_9 x1 x3 x5 x6 x7 x8 x9 (.bool false) J18 J15 J9 Q w)

def f20_7 (x1 : Value) (x3 : Value) (x5 : Value) (x6 : Value) (x7 : Value) (x8 : Value) (J15 : Value → Value → World → Prop) (J9 : Value → Value → Value → World → Prop) (Q : Value → World → Prop) (w : World) : Prop :=
  kL fun (I : Value → World → Prop) (μ : Value → World → Nat) => I (.int .i64 4) w ∧ ∀ (x9 : Value) (w1 : World), I x9 w1 →
  f20_8 x9 x1 x3 x5 x6 x7 x8 (fun y9 w2 => I y9 w2 ∧ μ y9 w2 < μ x9 w1) J15 J9 Q w1

def f20_17 (x1 : Value) (x3 : Value) (x5 : Value) (x6 : Value) (J9 : Value → Value → Value → World → Prop) (Q : Value → World → Prop) (w : World) : Prop :=
  kint .i64 .add x6 (.int .i64 1) fun v116 =>
  J9 x3 x5 v116 w

def f20_6 (x3 : Value) (x8 : Value) (x1 : Value) (x5 : Value) (x6 : Value) (x7 : Value) (J15 : Value → Value → World → Prop) (J9 : Value → Value → Value → World → Prop) (Q : Value → World → Prop) (w : World) : Prop :=
  kfld 1 x7 fun v72 =>
  kld v72 w fun v73 =>
  klen v73 fun v74 =>
  kint .i64 .lss x8 v74 fun v76 =>
  kB v76 fun b117 => kIf b117
  (f20_7 x1 x3 x5 x6 x7 x8 J15 J9 Q w)
  (f20_17 x1 x3 x5 x6 J9 Q w)

def f20_5 (x1 : Value) (x3 : Value) (x5 : Value) (x6 : Value) (J9 : Value → Value → Value → World → Prop) (Q : Value → World → Prop) (w : World) : Prop :=
  kfld 3 x1 fun v49 =>
  kld v49 w fun v50 =>
  kix (some (.slice 85)) (some 2) v50 x6 fun v51 =>
  kldN 2 v51 w fun v52 =>
  knew #[(.int .i64 0), (.slice none 0 0)] 85 w fun v53 w54 =>
  kst 2 v53 v52 w54 fun w55 =>
  kfld 0 v53 fun v56 =>
  kld v56 w55.drew fun v57 =>
  kG (w55.drew = w55.drew) <|
  kint .i64 .sub v57 x5 fun v58 =>
  kcall Tryd.prog 48 #[v58] w55.drew fun v59 w60 =>
  kstr .add x3 v59 fun v61 =>
  kfld 1 v53 fun v62 =>
  kld v62 w60 fun v63 =>
  kG (w60 = w60) <|
  kG (kld v62 w55.drew fun v118 =>
  v118 = v63 ∧ w55.drew = w55.drew) <|
  kcall Tryd.prog 50 #[v63] w60 fun v64 w65 =>
  kcnv .i64 v64 fun v66 =>
  kcall Tryd.prog 48 #[v66] w65 fun v67 w68 =>
  kstr .add v61 v67 fun v69 =>
  kfld 0 v53 fun v70 =>
  kld v70 w68 fun v71 =>
  kL fun (I : Value → Value → World → Prop) (μ : Value → Value → World → Nat) => I v69 (.int .i64 0) w68 ∧ ∀ (x3 x8 : Value) (w1 : World), I x3 x8 w1 →
  f20_6 x3 x8 x1 v71 x6 v53 (fun y3 y8 w2 => I y3 y8 w2 ∧ μ y3 y8 w2 < μ x3 x8 w1) J9 Q w1

def f20_18 (x3 : Value) (Q : Value → World → Prop) (w : World) : Prop :=
  Q x3 w

def f20_4 (x3 : Value) (x5 : Value) (x6 : Value) (x1 : Value) (J9 : Value → Value → Value → World → Prop) (Q : Value → World → Prop) (w : World) : Prop :=
  kfld 3 x1 fun v44 =>
  kld v44 w fun v45 =>
  klen v45 fun v46 =>
  kint .i64 .lss x6 v46 fun v48 =>
  kB v48 fun b119 => kIf b119
  (f20_5 x1 x3 x5 x6 J9 Q w)
  (f20_18 x3 Q w)

def f20_3 (x1 : Value) (x3 : Value) (Q : Value → World → Prop) (w : World) : Prop :=
  kfld 3 x1 fun v37 =>
  kld v37 w fun v38 =>
  klen v38 fun v39 =>
  kcall Tryd.prog 48 #[v39] w fun v41 w42 =>
  kstr .add x3 v41 fun v43 =>
  kL fun (I : Value → Value → Value → World → Prop) (μ : Value → Value → Value → World → Nat) => I v43 (.int .i64 0) (.int .i64 0) w42 ∧ ∀ (x3 x5 x6 : Value) (w1 : World), I x3 x5 x6 w1 →
  f20_4 x3 x5 x6 x1 (fun y3 y5 y6 w2 => I y3 y5 y6 w2 ∧ μ y3 y5 y6 w2 < μ x3 x5 x6 w1) Q w1

def f20_0 (x3 : Value) (x4 : Value) (x1 : Value) (J3 : Value → Value → World → Prop) (Q : Value → World → Prop) (w : World) : Prop :=
  kfld 4 x1 fun v24 =>
  kld v24 w fun v25 =>
  klen v25 fun v26 =>
  kint .i64 .lss x4 v26 fun v28 =>
  kB v28 fun b120 => kIf b120
  (f20_1 x1 x3 x4 J3 Q w)
  (f20_3 x1 x3 Q w)

def f20 (x0 : Value) (Q : Value → World → Prop) (w : World) : Prop :=
  knew (Value.cells x0) 55 w fun v1 w2 =>
  kfld 0 v1 fun v3 =>
  kld v3 w2.drew fun v4 =>
  kG (w2.drew = w2.drew) <|
  kcall Tryd.prog 48 #[v4] w2.drew fun v5 w6 =>
  kfld 1 v1 fun v7 =>
  kld v7 w6 fun v8 =>
  kG (w6 = w6) <|
  kG (kld v7 w2.drew fun v126 =>
  v126 = v8 ∧ w2.drew = w2.drew) <|
  kcall Tryd.prog 48 #[v8] w6 fun v9 w10 =>
  kstr .add v5 v9 fun v11 =>
  kfld 2 v1 fun v12 =>
  kld v12 w10 fun v13 =>
  kG (w10 = w10) <|
  kG (kld v12 w6 fun v125 =>
  v125 = v13 ∧ w6 = w6) <|
  kG (kld v12 w2.drew fun v124 =>
  v124 = v13 ∧ w2.drew = w2.drew) <|
  kcall Tryd.prog 49 #[v13] w10 fun v14 w15 =>
  kstr .add v11 v14 fun v16 =>
  kfld 4 v1 fun v17 =>
  kld v17 w15 fun v18 =>
  kG (w15 = w15) <|
  kG (kld v17 w10 fun v123 =>
  v123 = v18 ∧ w10 = w10) <|
  kG (kld v17 w6 fun v122 =>
  v122 = v18 ∧ w6 = w6) <|
  kG (kld v17 w2.drew fun v121 =>
  v121 = v18 ∧ w2.drew = w2.drew) <|
  klen v18 fun v19 =>
  kcall Tryd.prog 48 #[v19] w15 fun v21 w22 =>
  kstr .add v16 v21 fun v23 =>
  kL fun (I : Value → Value → World → Prop) (μ : Value → Value → World → Nat) => I v23 (.int .i64 0) w22 ∧ ∀ (x3 x4 : Value) (w1 : World), I x3 x4 w1 →
  f20_0 x3 x4 v1 (fun y3 y4 w2 => I y3 y4 w2 ∧ μ y3 y4 w2 < μ x3 x4 w1) Q w1

theorem f20_eq (x0 : Value) (Q : Value → World → Prop) (w : World) : f20 x0 Q w = fnVC Tryd.prog Tryd.f20 [(3, [3, 4]), (9, [3, 5, 6]), (15, [3, 8]), (18, [9]), (22, [3, 10])] (Tryd.f20.body.get rfl) [x0] w Q := by kernel_rfl
theorem f20_ok {x0 : Value} {Q : Value → World → Prop} {w : World} (h : f20 x0 Q w) : Meets Tryd.prog 20 #[x0] w Q :=
  sound (c := (Tryd.f20.body.get rfl)) [(3, [3, 4]), (9, [3, 5, 6]), (15, [3, 8]), (18, [9]), (22, [3, 10])] Tryd.func20 rfl rfl (args := [x0]) rfl (Eq.mp (f20_eq x0 Q w) h)

/-! pasodoble/pasodobleref02.Count -/
def f48 (x0 : Value) (Q : Value → World → Prop) (w : World) : Prop :=
  kcnv .u64 x0 fun v1 =>
  kcall Tryd.prog 78 #[v1] w fun v2 w3 =>
  Q v2 w3

theorem f48_eq (x0 : Value) (Q : Value → World → Prop) (w : World) : f48 x0 Q w = fnVC Tryd.prog Tryd.f48 [] (Tryd.f48.body.get rfl) [x0] w Q := by kernel_rfl
theorem f48_ok {x0 : Value} {Q : Value → World → Prop} {w : World} (h : f48 x0 Q w) : Meets Tryd.prog 48 #[x0] w Q :=
  sound (c := (Tryd.f48.body.get rfl)) [] Tryd.func48 rfl rfl (args := [x0]) rfl (Eq.mp (f48_eq x0 Q w) h)

/-! pasodoble/pasodobleref02.Num -/
def f49_0 (x0 : Value) (Q : Value → World → Prop) (w : World) : Prop :=
  kint .i64 .add x0 (.int .i64 1) fun v6 =>
  kun .neg (some (.int .i64)) v6 fun v7 =>
  kcnv .u64 v7 fun v8 =>
  kint .u64 .mul (.int .u64 2) v8 fun v9 =>
  kint .u64 .add v9 (.int .u64 1) fun v10 =>
  kcall Tryd.prog 78 #[v10] w fun v11 w12 =>
  Q v11 w12

def f49 (x0 : Value) (Q : Value → World → Prop) (w : World) : Prop :=
  kint .i64 .geq x0 (.int .i64 0) fun v1 =>
  kB v1 fun b13 => kIf b13
  (kcnv .u64 x0 fun v2 =>
  kint .u64 .mul (.int .u64 2) v2 fun v3 =>
  kcall Tryd.prog 78 #[v3] w fun v4 w5 =>
  Q v4 w5)
  (f49_0 x0 Q w)

theorem f49_eq (x0 : Value) (Q : Value → World → Prop) (w : World) : f49 x0 Q w = fnVC Tryd.prog Tryd.f49 [] (Tryd.f49.body.get rfl) [x0] w Q := by kernel_rfl
theorem f49_ok {x0 : Value} {Q : Value → World → Prop} {w : World} (h : f49 x0 Q w) : Meets Tryd.prog 49 #[x0] w Q :=
  sound (c := (Tryd.f49.body.get rfl)) [] Tryd.func49 rfl rfl (args := [x0]) rfl (Eq.mp (f49_eq x0 Q w) h)

/-! pasodoble/pasodobleref02.groups -/
def f78_1 (x0 : Value) (x3 : Value) (J2 : Value → Value → World → Prop) (Q : Value → World → Prop) (w : World) : Prop :=
  kint .u64 .rem x0 (.int .u64 128) fun v2 =>
  kcnv .u8 v2 fun v3 =>
  kint .u8 .add v3 (.int .u8 128) fun v4 =>
  kbldS [(.int .u8 0)] 1 [(0, 1, v4)] 5 w fun v5 w6 =>
  ksem Tryd.prog (convert 104 9 v5) w6 fun v7 w8 =>
  kstr .add x3 v7 fun v9 =>
  kint .u64 .quo x0 (.int .u64 128) fun v10 =>
  J2 v10 v9 w8

def f78_2 (x0 : Value) (x3 : Value) (Q : Value → World → Prop) (w : World) : Prop :=
  kcnv .u8 x0 fun v11 =>
  kbldS [(.int .u8 0)] 1 [(0, 1, v11)] 5 w fun v12 w13 =>
  ksem Tryd.prog (convert 104 9 v12) w13 fun v14 w15 =>
  kstr .add x3 v14 fun v16 =>
  Q v16 w15

def f78_0 (x0 : Value) (x3 : Value) (J2 : Value → Value → World → Prop) (Q : Value → World → Prop) (w : World) : Prop :=
  kint .u64 .geq x0 (.int .u64 128) fun v1 =>
  kB v1 fun b17 => kIf b17
  (f78_1 x0 x3 J2 Q w)
  (f78_2 x0 x3 Q w)

def f78 (x0 : Value) (Q : Value → World → Prop) (w : World) : Prop :=
  kL fun (I : Value → Value → World → Prop) (μ : Value → Value → World → Nat) => I x0 (.string ⟨#[]⟩) w ∧ ∀ (x0 x3 : Value) (w1 : World), I x0 x3 w1 →
  f78_0 x0 x3 (fun y0 y3 w2 => I y0 y3 w2 ∧ μ y0 y3 w2 < μ x0 x3 w1) Q w1

theorem f78_eq (x0 : Value) (Q : Value → World → Prop) (w : World) : f78 x0 Q w = fnVC Tryd.prog Tryd.f78 [(2, [0, 3])] (Tryd.f78.body.get rfl) [x0] w Q := by kernel_rfl
theorem f78_ok {x0 : Value} {Q : Value → World → Prop} {w : World} (h : f78 x0 Q w) : Meets Tryd.prog 78 #[x0] w Q :=
  sound (c := (Tryd.f78.body.get rfl)) [(2, [0, 3])] Tryd.func78 rfl rfl (args := [x0]) rfl (Eq.mp (f78_eq x0 Q w) h)

/-! pasodoble/pasodobleref09.Mask -/
def f50_2 (x0 : Value) (x3 : Value) (x4 : Value) (J3 : Value → Value → World → Prop) (Q : Value → World → Prop) (w : World) : Prop :=
  kint .i64 .add x4 (.int .i64 1) fun v9 =>
  J3 x3 v9 w

def f50_1 (x0 : Value) (x3 : Value) (x4 : Value) (J3 : Value → Value → World → Prop) (Q : Value → World → Prop) (w : World) : Prop :=
  kix (some (.slice 73)) (some 6) x0 x4 fun v4 =>
  kfld 0 v4 fun v5 =>
  kld v5 w fun v6 =>
  kint .u32 .shl (.int .u32 1) v6 fun v7 =>
  kint .u32 .or x3 v7 fun v8 =>
  f50_2 x0 v8 x4 J3 Q w

def f50_3 (x3 : Value) (Q : Value → World → Prop) (w : World) : Prop :=
  Q x3 w

def f50_0 (x3 : Value) (x4 : Value) (x0 : Value) (J3 : Value → Value → World → Prop) (Q : Value → World → Prop) (w : World) : Prop :=
  klen x0 fun v1 =>
  kint .i64 .lss x4 v1 fun v3 =>
  kB v3 fun b10 => kIf b10
  (f50_1 x0 x3 x4 J3 Q w)
  (f50_3 x3 Q w)

def f50 (x0 : Value) (Q : Value → World → Prop) (w : World) : Prop :=
  kL fun (I : Value → Value → World → Prop) (μ : Value → Value → World → Nat) => I (.int .u32 0) (.int .i64 0) w ∧ ∀ (x3 x4 : Value) (w1 : World), I x3 x4 w1 →
  f50_0 x3 x4 x0 (fun y3 y4 w2 => I y3 y4 w2 ∧ μ y3 y4 w2 < μ x3 x4 w1) Q w1

theorem f50_eq (x0 : Value) (Q : Value → World → Prop) (w : World) : f50 x0 Q w = fnVC Tryd.prog Tryd.f50 [(3, [3, 4])] (Tryd.f50.body.get rfl) [x0] w Q := by kernel_rfl
theorem f50_ok {x0 : Value} {Q : Value → World → Prop} {w : World} (h : f50 x0 Q w) : Meets Tryd.prog 50 #[x0] w Q :=
  sound (c := (Tryd.f50.body.get rfl)) [(3, [3, 4])] Tryd.func50 rfl rfl (args := [x0]) rfl (Eq.mp (f50_eq x0 Q w) h)

/-! pasodoble/pasodobleref14.Same -/
def f18 (x0 : Value) (x1 : Value) (Q : Value → World → Prop) (w : World) : Prop :=
  knew (Value.cells x0) 55 w fun v1 w2 =>
  knew (Value.cells x1) 55 w2 fun v3 w4 =>
  kfld 0 v1 fun v5 =>
  kld v5 w4 fun v6 =>
  kfld 0 v3 fun v7 =>
  kld v7 w4 fun v8 =>
  kint .i64 .eql v6 v8 fun v9 =>
  kB v9 fun b10 => kIf b10
  (kfld 1 v1 fun v11 =>
  kld v11 w4 fun v12 =>
  kfld 1 v3 fun v13 =>
  kld v13 w4 fun v14 =>
  kint .i64 .eql v12 v14 fun v15 =>
  kB v15 fun b16 => kIf b16
  (kfld 2 v1 fun v17 =>
  kld v17 w4 fun v18 =>
  kfld 2 v3 fun v19 =>
  kld v19 w4 fun v20 =>
  kint .i64 .eql v18 v20 fun v21 =>
  kB v21 fun b22 => kIf b22
  (kfld 3 v1 fun v23 =>
  kld v23 w4 fun v24 =>
  kfld 3 v3 fun v25 =>
  kld v25 w4 fun v26 =>
  kcall Tryd.prog 46 #[v24, v26] w4 fun v27 w28 =>
  kB v27 fun b29 => kIf b29
  (kfld 4 v1 fun v30 =>
  kld v30 w28 fun v31 =>
  kfld 4 v3 fun v32 =>
  kld v32 w28 fun v33 =>
  kcall Tryd.prog 47 #[v31, v33] w28 fun v34 w35 =>
  Q v34 w35)
  (Q (.bool false) w28))
  (Q (.bool false) w4))
  (Q (.bool false) w4))
  (Q (.bool false) w4)

theorem f18_eq (x0 : Value) (x1 : Value) (Q : Value → World → Prop) (w : World) : f18 x0 x1 Q w = fnVC Tryd.prog Tryd.f18 [] (Tryd.f18.body.get rfl) [x0, x1] w Q := by kernel_rfl
theorem f18_ok {x0 : Value} {x1 : Value} {Q : Value → World → Prop} {w : World} (h : f18 x0 x1 Q w) : Meets Tryd.prog 18 #[x0, x1] w Q :=
  sound (c := (Tryd.f18.body.get rfl)) [] Tryd.func18 rfl rfl (args := [x0, x1]) rfl (Eq.mp (f18_eq x0 x1 Q w) h)

/-! pasodoble/pasodobleref14.Beings -/
def f46_4 (x0 : Value) (x1 : Value) (x5 : Value) (J4 : Value → World → Prop) (Q : Value → World → Prop) (w : World) : Prop :=
  kint .i64 .add x5 (.int .i64 1) fun v26 =>
  J4 v26 w

def f46_3 (x0 : Value) (x1 : Value) (x5 : Value) (x41 : Value) (J4 : Value → World → Prop) (Q : Value → World → Prop) (w : World) : Prop :=
  kB x41 fun b27 => kIf b27
  (Q (.bool false) w)
  (f46_4 x0 x1 x5 J4 Q w)

def f46_2 (x0 : Value) (x1 : Value) (x5 : Value) (J4 : Value → World → Prop) (Q : Value → World → Prop) (w : World) : Prop :=
  kix (some (.slice 85)) (some 2) x0 x5 fun v9 =>
  kfld 0 v9 fun v10 =>
  kld v10 w.drew fun v11 =>
  kG (w.drew = w.drew) <|
  kix (some (.slice 85)) (some 2) x1 x5 fun v12 =>
  kfld 0 v12 fun v13 =>
  kld v13 w.drew fun v14 =>
  kG (w.drew = w.drew) <|
  kint .i64 .neq v11 v14 fun v15 =>
  kB v15 fun b16 => kIf (!b16)
  (kix (some (.slice 85)) (some 2) x0 x5 fun v17 =>
  kfld 1 v17 fun v18 =>
  kld v18 w.drew fun v19 =>
  kG (w.drew = w.drew) <|
  kix (some (.slice 85)) (some 2) x1 x5 fun v20 =>
  kfld 1 v20 fun v21 =>
  kld v21 w.drew fun v22 =>
  kG (w.drew = w.drew) <|
  kcall Tryd.prog 77 #[v19, v22] w.drew fun v23 w24 =>
  kun .not (some .bool) v23 fun v25 =>
  f46_3 x0 x1 x5 v25 J4 Q w24)
  (f46_3 x0 x1 x5 (.bool true) J4 Q w.drew)

def f46_5 (Q : Value → World → Prop) (w : World) : Prop :=
  Q (.bool true) w

def f46_1 (x5 : Value) (x0 : Value) (x1 : Value) (J4 : Value → World → Prop) (Q : Value → World → Prop) (w : World) : Prop :=
  klen x0 fun v6 =>
  kint .i64 .lss x5 v6 fun v8 =>
  kB v8 fun b28 => kIf b28
  (f46_2 x0 x1 x5 J4 Q w)
  (f46_5 Q w)

def f46_0 (x0 : Value) (x1 : Value) (Q : Value → World → Prop) (w : World) : Prop :=
  kL fun (I : Value → World → Prop) (μ : Value → World → Nat) => I (.int .i64 0) w ∧ ∀ (x5 : Value) (w1 : World), I x5 w1 →
  f46_1 x5 x0 x1 (fun y5 w2 => I y5 w2 ∧ μ y5 w2 < μ x5 w1) Q w1

def f46 (x0 : Value) (x1 : Value) (Q : Value → World → Prop) (w : World) : Prop :=
  klen x0 fun v1 =>
  klen x1 fun v3 =>
  kint .i64 .neq v1 v3 fun v5 =>
  kB v5 fun b29 => kIf b29
  (Q (.bool false) w)
  (f46_0 x0 x1 Q w)

theorem f46_eq (x0 : Value) (x1 : Value) (Q : Value → World → Prop) (w : World) : f46 x0 x1 Q w = fnVC Tryd.prog Tryd.f46 [(4, [5])] (Tryd.f46.body.get rfl) [x0, x1] w Q := by kernel_rfl
theorem f46_ok {x0 : Value} {x1 : Value} {Q : Value → World → Prop} {w : World} (h : f46 x0 x1 Q w) : Meets Tryd.prog 46 #[x0, x1] w Q :=
  sound (c := (Tryd.f46.body.get rfl)) [(4, [5])] Tryd.func46 rfl rfl (args := [x0, x1]) rfl (Eq.mp (f46_eq x0 x1 Q w) h)

/-! pasodoble/pasodobleref04.Same -/
def f47_3 (x0 : Value) (x1 : Value) (x5 : Value) (J4 : Value → World → Prop) (Q : Value → World → Prop) (w : World) : Prop :=
  kint .i64 .add x5 (.int .i64 1) fun v14 =>
  J4 v14 w

def f47_2 (x0 : Value) (x1 : Value) (x5 : Value) (J4 : Value → World → Prop) (Q : Value → World → Prop) (w : World) : Prop :=
  kix (some (.slice 3)) (some 1) x0 x5 fun v9 =>
  kld v9 w.drew fun v10 =>
  kG (w.drew = w.drew) <|
  kix (some (.slice 3)) (some 1) x1 x5 fun v11 =>
  kld v11 w.drew fun v12 =>
  kG (w.drew = w.drew) <|
  kint .i64 .neq v10 v12 fun v13 =>
  kB v13 fun b15 => kIf b15
  (Q (.bool false) w.drew)
  (f47_3 x0 x1 x5 J4 Q w.drew)

def f47_4 (Q : Value → World → Prop) (w : World) : Prop :=
  Q (.bool true) w

def f47_1 (x5 : Value) (x0 : Value) (x1 : Value) (J4 : Value → World → Prop) (Q : Value → World → Prop) (w : World) : Prop :=
  klen x0 fun v6 =>
  kint .i64 .lss x5 v6 fun v8 =>
  kB v8 fun b16 => kIf b16
  (f47_2 x0 x1 x5 J4 Q w)
  (f47_4 Q w)

def f47_0 (x0 : Value) (x1 : Value) (Q : Value → World → Prop) (w : World) : Prop :=
  kL fun (I : Value → World → Prop) (μ : Value → World → Nat) => I (.int .i64 0) w ∧ ∀ (x5 : Value) (w1 : World), I x5 w1 →
  f47_1 x5 x0 x1 (fun y5 w2 => I y5 w2 ∧ μ y5 w2 < μ x5 w1) Q w1

def f47 (x0 : Value) (x1 : Value) (Q : Value → World → Prop) (w : World) : Prop :=
  klen x0 fun v1 =>
  klen x1 fun v3 =>
  kint .i64 .neq v1 v3 fun v5 =>
  kB v5 fun b17 => kIf b17
  (Q (.bool false) w)
  (f47_0 x0 x1 Q w)

theorem f47_eq (x0 : Value) (x1 : Value) (Q : Value → World → Prop) (w : World) : f47 x0 x1 Q w = fnVC Tryd.prog Tryd.f47 [(4, [5])] (Tryd.f47.body.get rfl) [x0, x1] w Q := by kernel_rfl
theorem f47_ok {x0 : Value} {x1 : Value} {Q : Value → World → Prop} {w : World} (h : f47 x0 x1 Q w) : Meets Tryd.prog 47 #[x0, x1] w Q :=
  sound (c := (Tryd.f47.body.get rfl)) [(4, [5])] Tryd.func47 rfl rfl (args := [x0, x1]) rfl (Eq.mp (f47_eq x0 x1 Q w) h)

/-! pasodoble/pasodobleref09.Same -/
def f77_3 (x0 : Value) (x1 : Value) (x5 : Value) (J4 : Value → World → Prop) (Q : Value → World → Prop) (w : World) : Prop :=
  kint .i64 .add x5 (.int .i64 1) fun v15 =>
  J4 v15 w

def f77_2 (x0 : Value) (x1 : Value) (x5 : Value) (J4 : Value → World → Prop) (Q : Value → World → Prop) (w : World) : Prop :=
  kix (some (.slice 73)) (some 6) x0 x5 fun v9 =>
  kldN 6 v9 w.drew fun v10 =>
  kG (w.drew = w.drew) <|
  kix (some (.slice 73)) (some 6) x1 x5 fun v11 =>
  kldN 6 v11 w.drew fun v12 =>
  kG (w.drew = w.drew) <|
  keq Tryd.prog .neq 73 false false v10 v12 w.drew fun v13 w14 =>
  kG (w14 = w.drew) <|
  kB v13 fun b16 => kIf b16
  (Q (.bool false) w14)
  (f77_3 x0 x1 x5 J4 Q w14)

def f77_4 (Q : Value → World → Prop) (w : World) : Prop :=
  Q (.bool true) w

def f77_1 (x5 : Value) (x0 : Value) (x1 : Value) (J4 : Value → World → Prop) (Q : Value → World → Prop) (w : World) : Prop :=
  klen x0 fun v6 =>
  kint .i64 .lss x5 v6 fun v8 =>
  kB v8 fun b17 => kIf b17
  (f77_2 x0 x1 x5 J4 Q w)
  (f77_4 Q w)

def f77_0 (x0 : Value) (x1 : Value) (Q : Value → World → Prop) (w : World) : Prop :=
  kL fun (I : Value → World → Prop) (μ : Value → World → Nat) => I (.int .i64 0) w ∧ ∀ (x5 : Value) (w1 : World), I x5 w1 →
  f77_1 x5 x0 x1 (fun y5 w2 => I y5 w2 ∧ μ y5 w2 < μ x5 w1) Q w1

def f77 (x0 : Value) (x1 : Value) (Q : Value → World → Prop) (w : World) : Prop :=
  klen x0 fun v1 =>
  klen x1 fun v3 =>
  kint .i64 .neq v1 v3 fun v5 =>
  kB v5 fun b18 => kIf b18
  (Q (.bool false) w)
  (f77_0 x0 x1 Q w)

theorem f77_eq (x0 : Value) (x1 : Value) (Q : Value → World → Prop) (w : World) : f77 x0 x1 Q w = fnVC Tryd.prog Tryd.f77 [(4, [5])] (Tryd.f77.body.get rfl) [x0, x1] w Q := by kernel_rfl
theorem f77_ok {x0 : Value} {x1 : Value} {Q : Value → World → Prop} {w : World} (h : f77 x0 x1 Q w) : Meets Tryd.prog 77 #[x0, x1] w Q :=
  sound (c := (Tryd.f77.body.get rfl)) [(4, [5])] Tryd.func77 rfl rfl (args := [x0, x1]) rfl (Eq.mp (f77_eq x0 x1 Q w) h)

end Go.Proofs.YtcabkicjboedaaaDoor
end
section
namespace Go.Proofs.YtcabkicjboedaaaDoor
open Go Go.Ev
set_option linter.unusedVariables false
set_option linter.unusedSimpArgs false
set_option maxRecDepth 100000

/-! ### The document's answer: numbers -/
def RGrInv (n : Nat) (w : World) (x0 x3 : Value) (wr : World) : Prop := ∃ (m : Nat) (l : List UInt8), m < 18446744073709551616 ∧ x0 = .int .u64 m ∧ x3 = .string (bs l) ∧ groupsF n = l ++ groupsF m ∧ Same w wr
theorem refGroups_spec (n : Nat) (hn : n < 18446744073709551616) (w : World) : Meets Tryd.prog 78 #[.int .u64 n] w fun v w' => v = .string (bs (groupsF n)) ∧ Same w w' := by
  have h10 := groupsF_len64 hn
  refine f78_ok ?_
  unfold f78
  refine kL_of (RGrInv n w) (fun x _ _ => (RowKit.intOf x).toNat) ⟨⟨n, [], hn, rfl, rfl, rfl, Mod.refl _ _⟩, ?_⟩
  rintro x0 x3 wr ⟨m, l, hm, rfl, rfl, hl, hs⟩
  have hll : l.length ≤ 10 := by rw [hl, List.length_append] at h10; omega
  have app : ∀ (b : UInt8) (K : Value → World → Prop), (∀ w', Same w w' → K (.string (bs (l ++ [b]))) w') →
      kbldS [(.int .u8 0)] 1 [(0, 1, u8V b)] 5 wr fun v5 w6 => ksem Tryd.prog (convert 104 9 v5) w6 fun v7 w8 => kstr .add (.string (bs l)) v7 fun v9 => K v9 w8 := by
    intro b K hK
    refine kbldS_of (cs := [u8V b]) rfl fun w5 h5 hs5 hb5 => ?_
    have hsl : SlIs w5 (some ⟨wr.heap.size, 0, none⟩) [b].length 1 ([b].map u8V) := SlIs.blk hb5 rfl
    refine ksem_bytes (l := [b]) hsl ?_
    rw [kstr_add, bs_size, bs_size, bs_append]
    exact kG_of (by simp; omega) (hK w5 (hs.trans h5))
  unfold f78_0
  rw [kint_geq, kB_bool]
  refine kIf_dec (fun h => ?_) (fun h => ?_)
  · have h128 : ¬ m < 128 := by omega
    have hg : groupsF m = UInt8.ofNat (m % 128 + 128) :: groupsF (m / 128) := by rw [groupsF, if_neg h128]
    unfold f78_1
    rw [kint_rem]
    refine kG_of (by omega) ?_
    rw [show (128 : Int) = ((128 : Nat) : Int) from rfl, tmod_nat, kcnv_int, wrap_u8 (by omega) (by omega), kint_add, wrap_u8 (by omega) (by omega)]
    have eb : (.int .u8 (((m % 128 : Nat) : Int) + ((128 : Nat) : Int)) : Value) = u8V (UInt8.ofNat (m % 128 + 128)) := by
      unfold u8V
      have : (UInt8.ofNat (m % 128 + 128)).toNat = m % 128 + 128 := by simp; omega
      rw [this]; simp
    rw [eb]
    refine app _ _ fun w' hs' => ?_
    rw [kint_quo]
    refine kG_of (by omega) ?_
    rw [tdiv_nat, wrap_u64 (by omega) (by omega)]
    rw [hg] at hl
    exact ⟨⟨m / 128, l ++ [UInt8.ofNat (m % 128 + 128)], by omega, rfl, rfl, by rw [hl]; simp, hs'⟩, by simp [RowKit.intOf]; omega⟩
  · have hg : groupsF m = [UInt8.ofNat m] := by rw [groupsF, if_pos (by omega)]
    unfold f78_2
    rw [kcnv_int, wrap_u8 (by omega) (by omega)]
    have eb : (.int .u8 (m : Int) : Value) = u8V (UInt8.ofNat m) := by
      unfold u8V
      have : (UInt8.ofNat m).toNat = m := by simp; omega
      rw [this]
    rw [eb]
    refine app _ _ fun w' hs' => ?_
    rw [hl, hg]
    exact ⟨rfl, hs'⟩
theorem refCount_spec (n : Int) (h0 : 0 ≤ n) (h1 : n ≤ 9223372036854775807) (w : World) : Meets Tryd.prog 48 #[.int .i64 n] w fun v w' => v = .string (bs (groupsF n.toNat)) ∧ Same w w' := by
  refine f48_ok ?_
  unfold f48
  rw [kcnv_int, wrap_u64 (by omega) (by omega)]
  have e : n = (n.toNat : Int) := by omega
  have h := refGroups_spec n.toNat (by omega) w
  rw [← e] at h
  refine kcall_of h ?_
  rintro v w' h
  exact h
theorem refNum_spec (z : Int) (hz : I64 z) (w : World) : Meets Tryd.prog 49 #[.int .i64 z] w fun v w' => v = .string (bs (groupsF (zz z))) ∧ Same w w' := by
  have hlt := zz_lt hz
  obtain ⟨z1, z2⟩ := hz
  have h := refGroups_spec (zz z) hlt w
  refine f49_ok ?_
  unfold f49
  rw [kint_geq, kB_bool]
  refine kIf_dec (fun h0 => ?_) (fun h0 => ?_)
  · rw [kcnv_int, wrap_u64 (by omega) (by omega), kint_mul, wrap_u64 (by omega) (by omega)]
    have e : 2 * z = (zz z : Int) := by unfold zz; rw [if_pos (by omega)]; omega
    rw [e]
    refine kcall_of h ?_
    rintro v w' h
    exact h
  · unfold f49_0
    rw [kint_add, wrap_i64 (by omega) (by omega), kun_neg, wrap_i64 (by omega) (by omega), kcnv_int, wrap_u64 (by omega) (by omega), kint_mul, wrap_u64 (by omega) (by omega), kint_add, wrap_u64 (by omega) (by omega)]
    have e : 2 * (0 - (z + 1)) + 1 = (zz z : Int) := by unfold zz; rw [if_neg (by omega)]; omega
    rw [e]
    refine kcall_of h ?_
    rintro v w' h
    exact h
theorem shlBit {c : Int} (h0 : 0 ≤ c) (h1 : c ≤ 31) {K : Value → Prop} {k : IntKind} (h : K (msk (bitF c))) : kint .u32 .shl (.int .u32 1) (.int k c) K := by
  rw [kint_shl]
  refine kG_of h0 ?_
  have e : min c.toNat 32 = c.toNat := by omega
  have hb := bitF_lt c
  have eb : bitF c = 2 ^ c.toNat := by unfold bitF; simp [show ¬ c < 0 by omega, show ¬ 32 ≤ c by omega]
  have ew : ishl .u32 1 c = ((bitF c : Nat) : Int) := by
    show IntKind.u32.wrap (1 * 2 ^ (min c.toNat 32)) = _
    rw [e]
    have : (1 * 2 ^ c.toNat : Int) = ((bitF c : Nat) : Int) := by rw [eb]; simp
    rw [this, wrap_u32 (by omega) (by omega)]
  rw [ew]; exact h
def RMaskInv (l : List Part) (w : World) (x3 x4 : Value) (wr : World) : Prop := ∃ i : Nat, i ≤ l.length ∧ x4 = .int .i64 i ∧ x3 = msk (hasF (l.take i)) ∧ wr = w
theorem refMask_spec {w : World} (l : List Part) (hl : ∀ p ∈ l, 0 ≤ p.comp ∧ p.comp < 16) (hn : l.length ≤ 1073741824) (a : Option Addr) (c : Nat) (hs : SlIs w a l.length 6 (l.flatMap Part.cells)) :
    Meets Tryd.prog 50 #[.slice a l.length c] w fun v w' => v = msk (hasF l) ∧ w' = w := by
  refine f50_ok ?_
  unfold f50
  refine kL_of (RMaskInv l w) (fun _ x _ => l.length - (RowKit.intOf x).toNat) ⟨⟨0, by omega, rfl, by simp [hasF, msk], rfl⟩, ?_⟩
  rintro x3 x4 wr ⟨i, hi, rfl, rfl, rfl⟩
  unfold f50_0
  rw [klen_slice, kint_lss, kB_bool]
  refine kIf_dec (fun hlt => ?_) (fun hge => ?_)
  · have hlt : i < l.length := by omega
    have htk : l.take (i + 1) = l.take i ++ [l[i]] := List.take_succ_eq_append_getElem hlt
    have hp := hl l[i] (List.getElem_mem hlt)
    unfold f50_1
    refine kixfld_of (F := Part.cells) (fun _ => rfl) hs hlt (v := .int .i64 l[i].comp) rfl rfl ?_
    generalize l[i] = p at *
    refine shlBit hp.1 (by omega) ?_
    rw [msk, msk, kint_or, u32_or (hasF_lt _) (bitF_lt _)]
    unfold f50_2
    rw [kint_add, i64_succ (by omega)]
    exact ⟨⟨i + 1, by omega, rfl, by rw [htk, hasF_snoc]; rfl, rfl⟩, by simp [RowKit.intOf]; omega⟩
  · have : i = l.length := by omega
    subst this
    unfold f50_3
    rw [List.take_length]
    exact ⟨rfl, rfl⟩

/-! ### The document's answer: good states -/
theorem partsGood_at : ∀ (l : List Part) (last : Int) (i : Nat) (h : i < l.length), partsGood last l = true → last < (l[i]).comp ∧ ∀ (h0 : 0 < i), (l[i - 1]'(by omega)).comp < (l[i]).comp
  | [], last, i, h, _ => by simp at h
  | x :: l, last, 0, h, hg => by
    unfold partsGood at hg
    simp only [Bool.and_eq_true, decide_eq_true_eq] at hg
    exact ⟨hg.1, fun h => by omega⟩
  | x :: l, last, i + 1, h, hg => by
    unfold partsGood at hg
    simp only [Bool.and_eq_true, decide_eq_true_eq] at hg
    have ih := partsGood_at l x.comp i (by simpa using h) hg.2.2.2
    refine ⟨by simpa using Int.lt_trans hg.1 ih.1, fun _ => ?_⟩
    cases i with
    | zero => simpa using ih.1
    | succ j => simpa using ih.2 (by omega)
theorem beingsGood_prev (next : Int) : ∀ (l : List BM) (last : Int) (i : Nat) (h : i < l.length), beingsGood next last l = true → last < (l[i]).id ∧ ∀ (h0 : 0 < i), (l[i - 1]'(by omega)).id < (l[i]).id
  | [], last, i, h, _ => by simp at h
  | x :: l, last, 0, h, hg => by
    unfold beingsGood at hg
    simp only [Bool.and_eq_true, decide_eq_true_eq] at hg
    exact ⟨hg.1, fun h => by omega⟩
  | x :: l, last, i + 1, h, hg => by
    unfold beingsGood at hg
    simp only [Bool.and_eq_true, decide_eq_true_eq] at hg
    have ih := beingsGood_prev next l x.id i (by simpa using h) hg.2.2.2
    refine ⟨by simpa using Int.lt_trans hg.1 ih.1, fun _ => ?_⟩
    cases i with
    | zero => simpa using ih.1
    | succ j => simpa using ih.2 (by omega)
def GIdx (n : Nat) (w : World) (b1 : Nat) (cs : List Value) (t : TypeId) (x : Value) (wr : World) : Prop := ∃ i : Nat, i ≤ n ∧ x = .int .i64 i ∧ Same w wr ∧ blk wr b1 = some (.cells cs.toArray t)
set_option maxHeartbeats 2000000 in
theorem refGood_spec {w : World} (s : SV) (hs : s.ok w) (hg : goodF s.m = true) : Meets Tryd.prog 19 #[s.val] w fun v w' => v = .bool true ∧ Same w w' := by
  obtain ⟨g1, g2, g3, g4, g5, g6, g7⟩ := goodF_of hg
  obtain ⟨hfr, hnx, hsd, hrl, hbl, hba, hra⟩ := hs
  have g1 : 0 ≤ s.frame := g1
  have g2 : s.frame ≤ 1073741824 := g2
  have g3 : 1 ≤ s.next := g3
  have g4 : s.next ≤ 1073741825 := g4
  have hml : (s.bl.map BV.m).length = s.bl.length := List.length_map ..
  have g5 : s.bl.length ≤ 64 := by have := g5; rwa [show s.m.beings.length = s.bl.length from hml] at this
  have g6 : s.rl.length ≤ 8 := g6
  refine f19_ok ?_
  unfold f19
  refine knew_of fun w2 h2 hs2 hb1 => ?_
  have hb1 : blk w2 w.heap.size = some (.cells s.cells.toArray 55) := hb1
  refine kfld_of ?_
  refine kld_of (v := .int .i64 s.frame) hb1 rfl ?_
  rw [kint_lss, kB_bool, decide_eq_false (by omega), Bool.not_false, kIf_true]
  refine kfld_of ?_
  refine kld_of (v := .int .i64 s.frame) hb1 rfl ?_
  rw [kint_gtr, kB_bool, decide_eq_false (by omega), Bool.not_false, kIf_true]
  refine kfld_of ?_
  refine kld_of (v := .int .i64 s.next) hb1 rfl ?_
  rw [kint_lss, kB_bool, decide_eq_false (by omega), Bool.not_false, kIf_true]
  refine kfld_of ?_
  refine kld_of (v := .int .i64 s.next) hb1 rfl ?_
  rw [kint_gtr, kB_bool, decide_eq_false (by omega), Bool.not_false, kIf_true]
  refine kfld_of ?_
  refine kld_of (v := .slice s.ba s.bl.length s.bc) hb1 rfl ?_
  rw [klen_slice, kint_gtr, kB_bool, decide_eq_false (by omega), Bool.not_false, kIf_true]
  refine kfld_of ?_
  refine kld_of (v := .slice s.ra s.rl.length s.rc) hb1 rfl ?_
  rw [klen_slice, kint_gtr, decide_eq_false (by omega)]
  unfold f19_0
  rw [kB_bool, kIf_false]
  unfold f19_1
  refine kL_of (GIdx s.bl.length w w.heap.size s.cells 55) (fun x _ => s.bl.length - (RowKit.intOf x).toNat) ⟨⟨0, by omega, rfl, h2, hb1⟩, ?_⟩
  clear hb1
  rintro x wr ⟨i, hi, rfl, hm, hb1⟩
  unfold f19_2
  refine kfld_of ?_
  refine kld_of (v := .slice s.ba s.bl.length s.bc) hb1 rfl ?_
  rw [klen_slice, kint_lss, kB_bool]
  refine kIf_dec (fun hlt => ?_) (fun hge => ?_)
  · have hlt : i < s.bl.length := by omega
    have hbi := hbl s.bl[i] (List.getElem_mem hlt)
    have hgi := beingsGood_at s.next (s.bl.map BV.m) 0 i (by omega) (by omega) g7
    have hgp := beingsGood_prev s.next (s.bl.map BV.m) 0 i (by omega) g7
    rw [List.getElem_map] at hgi hgp
    unfold f19_3
    refine kfld_of ?_
    refine kld_of (v := .slice s.ba s.bl.length s.bc) hb1 rfl ?_
    refine kixldN_of (F := BV.cells) (fun _ => rfl) (by omega) (hba.same hm) hlt rfl ?_
    have hq : ∃ q, q = s.bl[i] := ⟨_, rfl⟩
    obtain ⟨q, hqe⟩ := hq
    rw [← hqe] at hbi hgi hgp ⊢
    obtain ⟨hid, hpok, hsl⟩ := hbi
    have i1 : 0 < q.id := hgp.1
    have i2 : q.id < s.next := hgi.2.1
    have i3 : partsGood (-1) q.parts = true := hgi.2.2.1
    refine knew_of fun w40 h40 hs40 hb40 => ?_
    refine kst_of (vs := q.cells) hb40 rfl rfl rfl (by simp) (by simp [BV.cells]) fun w41 h41 hs41 hb41 => ?_
    have hm41 : Same wr w41.drew := (Mod.after h40 h41 (fun b hb => by omega)).drew
    have hb41 : blk w41.drew wr.heap.size = some (.cells q.cells.toArray 85) := hb41
    have hb1' := hm41.get hb1 (fun h => h)
    have hmw := hm.trans hm41
    generalize w41.drew = wd at *
    refine kfld_of ?_
    refine kld_of (v := .int .i64 q.id) hb41 rfl ?_
    refine kG_of rfl ?_
    rw [kint_lss, kB_bool, decide_eq_false (by omega), Bool.not_false, kIf_true]
    refine kfld_of ?_
    refine kld_of (v := .int .i64 q.id) hb41 rfl ?_
    refine kG_of rfl ?_
    refine kfld_of ?_
    refine kld_of (v := .int .i64 s.next) hb1' rfl ?_
    refine kG_of rfl ?_
    rw [kint_geq, kB_bool, decide_eq_false (by omega), Bool.not_false, kIf_true, kint_gtr, kB_bool]
    have inner : f19_4 (.pointer (some ⟨w.heap.size, 0, none⟩)) (.int .i64 i) (.pointer (some ⟨wr.heap.size, 0, none⟩)) (.bool false)
        (fun y3 w2_1 => GIdx s.bl.length w w.heap.size s.cells 55 y3 w2_1 ∧ s.bl.length - (RowKit.intOf y3).toNat < s.bl.length - (RowKit.intOf (Value.int .i64 i)).toNat) (fun v w' => v = .bool true ∧ Same w w') wd := by
      have hall := partsGood_all q.parts (-1) i3
      have hplen := partsGood_len q.parts (-1) (by omega) (by omega) i3
      unfold f19_4
      rw [kB_bool, kIf_false]
      unfold f19_5
      refine kL_of (GIdx q.parts.length wd wr.heap.size q.cells 85) (fun x _ => q.parts.length - (RowKit.intOf x).toNat) ⟨⟨0, by omega, rfl, Mod.refl _ _, hb41⟩, ?_⟩
      rintro x wk ⟨k, hk, rfl, hmk, hb4⟩
      unfold f19_6
      refine kfld_of ?_
      refine kld_of (v := .slice q.pa q.parts.length q.pc) hb4 rfl ?_
      rw [klen_slice, kint_lss, kB_bool]
      refine kIf_dec (fun hlt2 => ?_) (fun hge2 => ?_)
      · have hlt2 : k < q.parts.length := by omega
        have hpk := hall q.parts[k] (List.getElem_mem hlt2)
        have hpp := (partsGood_at q.parts (-1) k hlt2 i3).2
        have hslk := hsl.same (hmw.trans hmk)
        unfold f19_7
        refine kfld_of ?_
        refine kld_of (v := .slice q.pa q.parts.length q.pc) hb4 rfl ?_
        refine kixldN_of (F := Part.cells) (fun _ => rfl) (by omega) hslk hlt2 rfl ?_
        obtain ⟨p, hpe⟩ : ∃ p, p = q.parts[k] := ⟨_, rfl⟩
        rw [← hpe] at hpk hpp ⊢
        refine knew_of fun w73 h73 hs73 hb73 => ?_
        refine kst_of (vs := p.cells) hb73 rfl rfl rfl (by simp) (by simp [Part.cells]) fun w74 h74 hs74 hb74 => ?_
        have hm74 : Same wk w74.drew := (Mod.after h73 h74 (fun b hb => by omega)).drew
        have hb74 : blk w74.drew wk.heap.size = some (.cells p.cells.toArray 73) := hb74
        have hb4' := hm74.get hb4 (fun h => h)
        have hslk' := hslk.same hm74
        have hmk' := hmk.trans hm74
        generalize w74.drew = we at *
        have fin : f19_8 (.pointer (some ⟨w.heap.size, 0, none⟩)) (.int .i64 i) (.pointer (some ⟨wr.heap.size, 0, none⟩)) (.int .i64 k) (.bool false)
            (fun y5 w2_1 => GIdx q.parts.length wd wr.heap.size q.cells 85 y5 w2_1 ∧ q.parts.length - (RowKit.intOf y5).toNat < q.parts.length - (RowKit.intOf (Value.int .i64 k)).toNat)
            (fun y3 w2_1 => GIdx s.bl.length w w.heap.size s.cells 55 y3 w2_1 ∧ s.bl.length - (RowKit.intOf y3).toNat < s.bl.length - (RowKit.intOf (Value.int .i64 i)).toNat) (fun v w' => v = .bool true ∧ Same w w') we := by
          unfold f19_8
          rw [kB_bool, kIf_false]
          unfold f19_9
          rw [kint_add, i64_succ (by omega)]
          exact ⟨⟨k + 1, by omega, rfl, hmk', hb4'⟩, by simp [RowKit.intOf]; omega⟩
        refine kfld_of ?_
        refine kld_of (v := .int .i64 p.comp) hb74 rfl ?_
        refine kG_of rfl ?_
        rw [kint_lss, kB_bool, decide_eq_false (by omega), Bool.not_false, kIf_true]
        refine kfld_of ?_
        refine kld_of (v := .int .i64 p.comp) hb74 rfl ?_
        refine kG_of rfl ?_
        rw [kint_gtr, kB_bool, decide_eq_false (by omega), Bool.not_false, kIf_true, kint_gtr, kB_bool]
        refine kIf_dec (fun hk0 => ?_) (fun hk0 => ?_)
        · have hk0 : 0 < k := by omega
          have hprev := hpp hk0
          refine kfld_of ?_
          refine kld_of (v := .slice q.pa q.parts.length q.pc) hb4' rfl ?_
          refine kG_of rfl ?_
          rw [kint_sub, wrap_i64 (by omega) (by omega), show (k : Int) - 1 = ((k - 1 : Nat) : Int) by omega]
          refine kixfld_of (F := Part.cells) (fun _ => rfl) hslk' (show k - 1 < q.parts.length by omega) (v := .int .i64 (q.parts[k - 1]'(by omega)).comp) rfl rfl ?_
          refine kG_of rfl ?_
          refine kfld_of ?_
          refine kld_of (v := .int .i64 p.comp) hb74 rfl ?_
          refine kG_of rfl ?_
          rw [kint_geq, kB_bool, decide_eq_false (by omega), Bool.not_false, kIf_true]
          refine kfld_of ?_
          refine kld_of (v := .int .i64 p.tick) hb74 rfl ?_
          refine kG_of rfl ?_
          rw [kint_lss, kB_bool, decide_eq_false (by omega), Bool.not_false, kIf_true]
          refine kfld_of ?_
          refine kld_of (v := .int .i64 p.tick) hb74 rfl ?_
          refine kG_of rfl ?_
          rw [kint_gtr, decide_eq_false (by omega)]
          exact fin
        · refine kfld_of ?_
          refine kld_of (v := .int .i64 p.tick) hb74 rfl ?_
          refine kG_of rfl ?_
          rw [kint_lss, kB_bool, decide_eq_false (by omega), Bool.not_false, kIf_true]
          refine kfld_of ?_
          refine kld_of (v := .int .i64 p.tick) hb74 rfl ?_
          refine kG_of rfl ?_
          rw [kint_gtr, decide_eq_false (by omega)]
          exact fin
      · unfold f19_10
        rw [kint_add, i64_succ (by omega)]
        exact ⟨⟨i + 1, by omega, rfl, hmw.trans hmk, hmk.get hb1' (fun h => h)⟩, by simp [RowKit.intOf]; omega⟩
    refine kIf_dec (fun hi0 => ?_) (fun hi0 => ?_)
    · have hi0 : 0 < i := by omega
      have hprev := hgp.2 hi0
      rw [List.getElem_map] at hprev
      have hprev : (s.bl[i - 1]'(by omega)).id < q.id := hprev
      refine kfld_of ?_
      refine kld_of (v := .slice s.ba s.bl.length s.bc) hb1' rfl ?_
      refine kG_of rfl ?_
      rw [kint_sub, wrap_i64 (by omega) (by omega), show (i : Int) - 1 = ((i - 1 : Nat) : Int) by omega]
      refine kixfld_of (F := BV.cells) (fun _ => rfl) (hba.same hmw) (show i - 1 < s.bl.length by omega) (v := .int .i64 (s.bl[i - 1]'(by omega)).id) rfl rfl ?_
      refine kG_of rfl ?_
      refine kfld_of ?_
      refine kld_of (v := .int .i64 q.id) hb41 rfl ?_
      refine kG_of rfl ?_
      rw [kint_geq, decide_eq_false (by omega)]
      exact inner
    · exact inner
  · unfold f19_11
    exact ⟨rfl, hm⟩
end Go.Proofs.YtcabkicjboedaaaDoor
end
section
namespace Go.Proofs.YtcabkicjboedaaaDoor
open Go Go.Ev
set_option linter.unusedVariables false
set_option linter.unusedSimpArgs false
set_option maxRecDepth 100000

/-- 'x[i].f[j]' of a slice of records with an array. -/
theorem kixarr_of {α : Type} {F : α → List Value} {sz : Nat} (hF : ∀ x, (F x).length = sz) {w w' : World} {a : Option Addr} {l : List α} {c : Nat} {e e2 : TypeId} {k k2 : IntKind} {i f m x : Nat} {K : Value → Prop} {v : Value}
    (h : SlIs w a l.length sz (l.flatMap F)) (hi : i < l.length) (hx : x < m) (hv : (F l[i])[f + x]? = some v) (hw : w'.heap = w.heap) (hK : K v) :
    kix (some (.slice e)) (some sz) (.slice a l.length c) (.int k i) fun v1 => kfld f v1 fun v2 => kix (some (.array m e2)) (some 1) v2 (.int k2 x) fun v3 => kld v3 w' K := by
  have hj : f + x < sz := by rw [← hF l[i]]; exact (List.getElem?_eq_some_iff.1 hv).1
  obtain ⟨b, o, cs, t, ff, rfl, hb, hc⟩ := h.cell hi hj
  rw [flat_cell hF hi hj, hv] at hc
  rw [kix_slice]
  refine kG_of (by omega) ?_
  rw [add_mk]
  refine kfld_of ?_
  rw [kix_array]
  refine kG_of (by omega) ?_
  rw [add_mk]
  refine kld_of (c := cs) (t := t) (f := ff) (v := v) (by unfold blk at *; rw [hw]; exact hb) ?_ hK
  rw [← hc]
  congr 1
  have : (i : Int).toNat = i := by omega
  have : (x : Int).toNat = x := by omega
  simp only [*, Nat.mul_one]
  omega
theorem numsB_len {l : List Int} (h : ∀ z ∈ l, I64 z) : (numsB l).length ≤ 10 * l.length := by
  induction l with
  | nil => simp [numsB]
  | cons x l ih =>
    have h1 := groupsF_len64 (zz_lt (h x (by simp)))
    have h2 := ih (fun z hz => h z (by simp [hz]))
    have e : numsB (x :: l) = groupsF (zz x) ++ numsB l := by simp [numsB]
    rw [e, List.length_append, List.length_cons]; omega
theorem partB_len {p : Part} (hp : p.ok) (ht : 0 ≤ p.tick) : (partB p).length ≤ 51 := by
  have h1 := numsB_len (l := p.vals.take (trimN p)) (fun z hz => by
    obtain ⟨j, hj, rfl⟩ := List.mem_iff_getElem.1 (List.mem_of_mem_take hz)
    exact part_val_ok hp (List.getElem?_eq_getElem hj))
  have h2 : (p.vals.take (trimN p)).length ≤ 4 := by rw [List.length_take]; simp [Part.vals]; omega
  have h3 := groupsF_len64 (n := p.tick.toNat) (by have := hp.2.2.2.2.2.2; omega)
  unfold partB
  rw [List.length_cons, List.length_append]; omega
theorem partsB_len {l : List Part} (h : ∀ p ∈ l, p.ok ∧ 0 ≤ p.tick) : (l.flatMap partB).length ≤ 51 * l.length := by
  induction l with
  | nil => simp
  | cons x l ih =>
    have h1 := partB_len (h x (by simp)).1 (h x (by simp)).2
    have h2 := ih (fun z hz => h z (by simp [hz]))
    rw [List.flatMap_cons, List.length_append, List.length_cons]; omega
theorem beingB_len {b : BM} {last : Int} (h : ∀ p ∈ b.parts, p.ok ∧ 0 ≤ p.tick) (hl : b.parts.length ≤ 16) (h1 : b.id - last ≤ 9223372036854775807) : (beingB last b).length ≤ 836 := by
  have g1 := groupsF_len64 (n := (b.id - last).toNat) (by omega)
  have g2 := groupsF_len64 (n := hasF b.parts) (by have := hasF_lt b.parts; omega)
  have g3 := partsB_len h
  unfold beingB
  rw [List.length_append, List.length_append]; omega

def RA (l : List Int) (pre : List UInt8) (w : World) (b1 : Nat) (cs : List Value) (x3 x4 : Value) (wr : World) : Prop :=
  ∃ i : Nat, i ≤ l.length ∧ x4 = .int .i64 i ∧ x3 = .string (bs (pre ++ numsB (l.take i))) ∧ Same w wr ∧ blk wr b1 = some (.cells cs.toArray 55)
def RB (l : List BM) (pre : List UInt8) (w : World) (b1 : Nat) (cs : List Value) (x3 x5 x6 : Value) (wr : World) : Prop :=
  ∃ i : Nat, i ≤ l.length ∧ x6 = .int .i64 i ∧ x5 = .int .i64 (lastId 0 (l.take i)) ∧ x3 = .string (bs (pre ++ beingsB 0 (l.take i))) ∧ (beingsB 0 (l.take i)).length ≤ 836 * i ∧ Same w wr ∧ blk wr b1 = some (.cells cs.toArray 55)
def RC (l : List Part) (pre : List UInt8) (w : World) (b1 : Nat) (cs : List Value) (x3 x8 : Value) (wr : World) : Prop :=
  ∃ i : Nat, i ≤ l.length ∧ x8 = .int .i64 i ∧ x3 = .string (bs (pre ++ (l.take i).flatMap partB)) ∧ Same w wr ∧ blk wr b1 = some (.cells cs.toArray 85)
def RE (l : List Int) (pre : List UInt8) (w : World) (x3 x10 : Value) (wr : World) : Prop :=
  ∃ i : Nat, i ≤ l.length ∧ x10 = .int .i64 i ∧ x3 = .string (bs (pre ++ numsB (l.take i))) ∧ Same w wr

/-- One part's bytes. -/
theorem refPart {w : World} {q : BV} {bQ : Nat} (hbQ : blk w bQ = some (.cells q.cells.toArray 85)) (hsl : SlIs w q.pa q.parts.length 6 (q.parts.flatMap Part.cells)) (hpok : ∀ p ∈ q.parts, p.ok ∧ 0 ≤ p.tick) {k : Nat} (hk : k < q.parts.length) (hq16 : q.parts.length ≤ 16)
    (pre : List UInt8) (hpre : pre.length ≤ 1000000) (x1 x5 x6 : Value) (J15 : Value → Value → World → Prop) (J9 : Value → Value → Value → World → Prop) (Q : Value → World → Prop)
    (hJ : ∀ w', Same w w' → J15 (.string (bs (pre ++ partB q.parts[k]))) (.int .i64 ((k + 1 : Nat) : Int)) w') :
    f20_7 x1 (.string (bs pre)) x5 x6 (.pointer (some ⟨bQ, 0, none⟩)) (.int .i64 k) J15 J9 Q w := by
  obtain ⟨hp, ht⟩ := hpok q.parts[k] (List.getElem_mem hk)
  obtain ⟨p, hpe⟩ : ∃ p, p = q.parts[k] := ⟨_, rfl⟩
  rw [← hpe] at hp ht hJ
  have hle4 := trimN_le p
  unfold f20_7
  refine kL_of (TrInv p w) (fun x _ => (RowKit.intOf x).toNat) ⟨⟨4, hle4, by omega, rfl, rfl⟩, ?_⟩
  rintro x wr ⟨n, hn1, hn2, rfl, rfl⟩
  have done : n = trimN p → f20_11 x1 (.string (bs pre)) x5 x6 (.pointer (some ⟨bQ, 0, none⟩)) (.int .i64 k) (.int .i64 n) J15 J9 Q wr := by
    rintro rfl
    unfold f20_11
    rw [kcnv_int, wrap_u8 (by omega) (by omega)]
    have eb : (.int .u8 ((trimN p : Nat) : Int) : Value) = u8V (UInt8.ofNat (trimN p)) := by
      unfold u8V
      have : (UInt8.ofNat (trimN p)).toNat = trimN p := by simp; omega
      rw [this]
    rw [eb]
    refine kbldS_of (cs := [u8V (UInt8.ofNat (trimN p))]) rfl fun w5 h5 hs5 hb5 => ?_
    refine ksem_bytes (l := [UInt8.ofNat (trimN p)]) (SlIs.blk hb5 rfl) ?_
    rw [kstr_add, bs_size, bs_size, bs_append]
    refine kG_of (by simp; omega) ?_
    have hvl : (p.vals.take (trimN p)).length = trimN p := by rw [List.length_take]; simp [Part.vals]; omega
    have hvok : ∀ z ∈ p.vals.take (trimN p), I64 z := fun z hz => by
      obtain ⟨j, hj, rfl⟩ := List.mem_iff_getElem.1 (List.mem_of_mem_take hz)
      exact part_val_ok hp (List.getElem?_eq_getElem hj)
    refine kL_of (RE (p.vals.take (trimN p)) (pre ++ [UInt8.ofNat (trimN p)]) wr) (fun _ x _ => trimN p - (RowKit.intOf x).toNat) ⟨⟨0, by omega, rfl, by simp [numsB], h5⟩, ?_⟩
    rintro x3 x10 wq ⟨i, hi, rfl, rfl, hm⟩
    have hnl := numsB_len (l := (p.vals.take (trimN p)).take i) (fun z hz => hvok z (List.mem_of_mem_take hz))
    have hti : ((p.vals.take (trimN p)).take i).length ≤ 4 := by rw [List.length_take]; omega
    unfold f20_12
    rw [kint_lss, kB_bool]
    refine kIf_dec (fun hlt => ?_) (fun hge => ?_)
    · have hlt : i < trimN p := by omega
      obtain ⟨z, hz1, hz2⟩ := part_val p i (by omega)
      have htk : (p.vals.take (trimN p)).take (i + 1) = (p.vals.take (trimN p)).take i ++ [z] := by
        rw [List.take_succ_eq_append_getElem (by omega)]
        congr 2
        have hzi : (p.vals.take (trimN p))[i]? = some z := by rw [List.getElem?_take_of_lt hlt]; exact hz1
        rw [List.getElem?_eq_getElem (by omega)] at hzi
        exact Option.some.inj hzi
      have hz64 := part_val_ok hp hz1
      have hgl := groupsF_len64 (zz_lt hz64)
      unfold f20_13
      refine kfld_of ?_
      refine kld_of (v := .slice q.pa q.parts.length q.pc) (hm.get hbQ (fun h => h)) rfl ?_
      refine kixarr_of (F := Part.cells) (fun _ => rfl) (hsl.same hm) hk (show i < 4 by omega) (v := .int .i64 z) (by rw [← hpe]; exact hz2) rfl ?_
      refine kcall_of (refNum_spec z hz64 wq) ?_
      rintro v w102 ⟨rfl, h102⟩
      rw [kstr_add, bs_size, bs_size, bs_append]
      refine kG_of (by simp only [List.length_append, List.length_cons, List.length_nil]; omega) ?_
      unfold f20_14
      rw [kint_add, i64_succ (by omega)]
      exact ⟨⟨i + 1, by omega, rfl, by rw [htk, numsB_snoc, List.append_assoc], hm.trans h102⟩, by simp only [RowKit.intOf, Int.toNat_natCast]; omega⟩
    · have : i = trimN p := by omega
      subst this
      rw [List.take_of_length_le (by omega)] at hnl ⊢
      have hgl := groupsF_len64 (n := p.tick.toNat) (by have := hp.2.2.2.2.2.2; omega)
      unfold f20_15
      refine kfld_of ?_
      refine kld_of (v := .slice q.pa q.parts.length q.pc) (hm.get hbQ (fun h => h)) rfl ?_
      refine kixfld_of (F := Part.cells) (fun _ => rfl) (hsl.same hm) hk (v := .int .i64 p.tick) (by rw [← hpe]; rfl) rfl ?_
      refine kcall_of (refCount_spec p.tick ht hp.2.2.2.2.2.2 wq) ?_
      rintro v w111 ⟨rfl, h111⟩
      rw [kstr_add, bs_size, bs_size, bs_append]
      refine kG_of (by simp only [List.length_append, List.length_cons, List.length_nil]; omega) ?_
      unfold f20_16
      rw [kint_add, i64_succ (by omega)]
      have e : ((pre ++ [UInt8.ofNat (trimN p)]) ++ numsB (p.vals.take (trimN p))) ++ groupsF p.tick.toNat = pre ++ partB p := by unfold partB; simp
      rw [e]
      exact hJ _ (hm.trans h111)
  unfold f20_8
  rw [kint_gtr, kB_bool]
  refine kIf_dec (fun hgt => ?_) (fun hle => ?_)
  · have hgt : 0 < n := by omega
    obtain ⟨z, hz1, hz2⟩ := part_val p (n - 1) (by omega)
    refine kfld_of ?_
    refine kld_of (v := .slice q.pa q.parts.length q.pc) hbQ rfl ?_
    rw [kint_sub, wrap_i64 (by omega) (by omega), show (n : Int) - 1 = ((n - 1 : Nat) : Int) by omega]
    refine kixarr_of (F := Part.cells) (fun _ => rfl) hsl hk (show n - 1 < 4 by omega) (v := .int .i64 z) (by rw [← hpe]; exact hz2) rfl ?_
    rw [kint_eql]
    unfold f20_9
    rw [kB_bool]
    refine kIf_dec (fun h0 => ?_) (fun h0 => ?_)
    · have hne : trimN p ≠ n := fun e => by
        obtain ⟨z', h1, h2⟩ := trimN_last p (n - 1) (by omega)
        rw [hz1] at h1
        exact h2 (by rw [← Option.some.inj h1]; exact h0)
      unfold f20_10
      rw [kint_sub, wrap_i64 (by omega) (by omega)]
      exact ⟨⟨n - 1, by omega, by omega, by congr 1; omega, rfl⟩, by simp only [RowKit.intOf]; omega⟩
    · refine done ?_
      by_cases e : n = trimN p
      · exact e
      · have := trimN_zero p (n - 1) (by omega) (by omega)
        rw [hz1] at this
        exact absurd (Option.some.inj this) h0
  · unfold f20_9
    rw [kB_bool, kIf_false]
    exact done (by omega)

set_option maxHeartbeats 2000000 in
theorem refBytes_spec {w : World} (s : SV) (hs : s.ok w) (hg : goodF s.m = true) : Meets Tryd.prog 20 #[s.val] w fun v w' => v = .string (bs (bytesF s.m)) ∧ Same w w' := by
  obtain ⟨g1, g2, g3, g4, g5, g6, g7⟩ := goodF_of hg
  obtain ⟨hfr, hnx, hsd, hrl, hbl, hba, hra⟩ := hs
  have g1 : 0 ≤ s.frame := g1
  have g3 : 1 ≤ s.next := g3
  have g4 : s.next ≤ 1073741825 := g4
  have hml : (s.bl.map BV.m).length = s.bl.length := List.length_map ..
  have g5 : s.bl.length ≤ 64 := by have := g5; rwa [show s.m.beings.length = s.bl.length from hml] at this
  have g6 : s.rl.length ≤ 8 := g6
  have l1 := groupsF_len64 (n := s.frame.toNat) (by have := hfr.2; omega)
  have l2 := groupsF_len64 (n := s.next.toNat) (by omega)
  have l3 := groupsF_len64 (zz_lt hsd)
  have l4 := groupsF_len64 (n := s.rl.length) (by omega)
  have l5 := groupsF_len64 (n := s.bl.length) (by omega)
  refine f20_ok ?_
  unfold f20
  refine knew_of fun w2 h2 hs2 hb1 => ?_
  have h2 : Same w w2.drew := h2.drew
  have hb1 : blk w2.drew w.heap.size = some (.cells s.cells.toArray 55) := hb1
  generalize w2.drew = wd at *
  refine kfld_of ?_
  refine kld_of (v := .int .i64 s.frame) hb1 rfl ?_
  refine kG_of rfl ?_
  refine kcall_of (refCount_spec s.frame g1 hfr.2 wd) ?_
  rintro v w6 ⟨rfl, h6⟩
  have hb6 := h6.get hb1 (fun h => h)
  refine kfld_of ?_
  refine kld_of (v := .int .i64 s.next) hb6 rfl ?_
  refine kG_of rfl ?_
  refine kG_of (kld_of (v := .int .i64 s.next) hb1 rfl ⟨rfl, rfl⟩) ?_
  refine kcall_of (refCount_spec s.next (by omega) hnx.2 w6) ?_
  rintro v w10 ⟨rfl, h10⟩
  have hb10 := h10.get hb6 (fun h => h)
  rw [kstr_add, bs_size, bs_size, bs_append]
  refine kG_of (by omega) ?_
  refine kfld_of ?_
  refine kld_of (v := .int .i64 s.seed) hb10 rfl ?_
  refine kG_of rfl ?_
  refine kG_of (kld_of (v := .int .i64 s.seed) hb6 rfl ⟨rfl, rfl⟩) ?_
  refine kG_of (kld_of (v := .int .i64 s.seed) hb1 rfl ⟨rfl, rfl⟩) ?_
  refine kcall_of (refNum_spec s.seed hsd w10) ?_
  rintro v w15 ⟨rfl, h15⟩
  have hb15 := h15.get hb10 (fun h => h)
  rw [kstr_add, bs_size, bs_size, bs_append]
  refine kG_of (by rw [List.length_append]; omega) ?_
  refine kfld_of ?_
  refine kld_of (v := .slice s.ra s.rl.length s.rc) hb15 rfl ?_
  refine kG_of rfl ?_
  refine kG_of (kld_of (v := .slice s.ra s.rl.length s.rc) hb10 rfl ⟨rfl, rfl⟩) ?_
  refine kG_of (kld_of (v := .slice s.ra s.rl.length s.rc) hb6 rfl ⟨rfl, rfl⟩) ?_
  refine kG_of (kld_of (v := .slice s.ra s.rl.length s.rc) hb1 rfl ⟨rfl, rfl⟩) ?_
  rw [klen_slice]
  refine kcall_of (refCount_spec (s.rl.length : Int) (by omega) (by omega) w15) ?_
  rintro v w22 ⟨rfl, h22⟩
  rw [kstr_add, bs_size, bs_size, bs_append, Int.toNat_natCast]
  refine kG_of (by simp only [List.length_append]; omega) ?_
  have hb22 := h22.get hb15 (fun h => h)
  have m22 := h2.trans (h6.trans (h10.trans (h15.trans h22)))
  have hpl : (((groupsF s.frame.toNat ++ groupsF s.next.toNat) ++ groupsF (zz s.seed)) ++ groupsF s.rl.length).length ≤ 40 := by simp only [List.length_append]; omega
  generalize hpre : ((groupsF s.frame.toNat ++ groupsF s.next.toNat) ++ groupsF (zz s.seed)) ++ groupsF s.rl.length = pre at *
  refine kL_of (RA s.rl pre w w.heap.size s.cells) (fun _ x _ => s.rl.length - (RowKit.intOf x).toNat) ⟨⟨0, by omega, rfl, by simp [numsB], m22, hb22⟩, ?_⟩
  clear hb1 hb6 hb10 hb15 hb22
  rintro x3 x4 wr ⟨i, hi, rfl, rfl, hm, hb1⟩
  have hnl := numsB_len (l := s.rl.take i) (fun z hz => hrl z (List.mem_of_mem_take hz))
  have hti : (s.rl.take i).length ≤ 8 := by rw [List.length_take]; omega
  unfold f20_0
  refine kfld_of ?_
  refine kld_of (v := .slice s.ra s.rl.length s.rc) hb1 rfl ?_
  rw [klen_slice, kint_lss, kB_bool]
  refine kIf_dec (fun hlt => ?_) (fun hge => ?_)
  · have hlt : i < s.rl.length := by omega
    have htk : s.rl.take (i + 1) = s.rl.take i ++ [s.rl[i]] := List.take_succ_eq_append_getElem hlt
    have hri := hrl s.rl[i] (List.getElem_mem hlt)
    unfold f20_1
    refine kfld_of ?_
    refine kld_of (v := .slice s.ra s.rl.length s.rc) hb1 rfl ?_
    refine kixld_of (F := intV) (hra.same hm) hlt rfl ?_
    generalize s.rl[i] = z at *
    have hgl := groupsF_len64 (zz_lt hri)
    refine kcall_of (refNum_spec z hri wr) ?_
    rintro v w34 ⟨rfl, h34⟩
    rw [kstr_add, bs_size, bs_size, bs_append]
    refine kG_of (by simp only [List.length_append]; omega) ?_
    unfold f20_2
    rw [kint_add, i64_succ (by omega)]
    exact ⟨⟨i + 1, by omega, rfl, by rw [htk, numsB_snoc, List.append_assoc], hm.trans h34, h34.get hb1 (fun h => h)⟩, by simp [RowKit.intOf]; omega⟩
  · have : i = s.rl.length := by omega
    subst this
    rw [List.take_length] at hnl ⊢
    unfold f20_3
    refine kfld_of ?_
    refine kld_of (v := .slice s.ba s.bl.length s.bc) hb1 rfl ?_
    rw [klen_slice]
    refine kcall_of (refCount_spec (s.bl.length : Int) (by omega) (by omega) wr) ?_
    rintro v w42 ⟨rfl, h42⟩
    rw [kstr_add, bs_size, bs_size, bs_append, Int.toNat_natCast]
    refine kG_of (by simp only [List.length_append]; omega) ?_
    have hpl2 : ((pre ++ numsB s.rl) ++ groupsF s.bl.length).length ≤ 130 := by simp only [List.length_append]; omega
    have htot : ((pre ++ numsB s.rl) ++ groupsF s.bl.length) ++ beingsB 0 (s.bl.map BV.m) = bytesF s.m := by
      rw [← hpre]
      unfold bytesF SV.m
      simp only [List.append_assoc, List.length_map]
    generalize (pre ++ numsB s.rl) ++ groupsF s.bl.length = pre2 at *
    refine kL_of (RB (s.bl.map BV.m) pre2 w w.heap.size s.cells) (fun _ _ x _ => s.bl.length - (RowKit.intOf x).toNat) ⟨⟨0, by omega, rfl, rfl, by simp [beingsB], by simp [beingsB], hm.trans h42, h42.get hb1 (fun h => h)⟩, ?_⟩
    clear hb1 hm
    rintro x3 x5 x6 wl ⟨j, hj, rfl, rfl, rfl, hjl, hm, hb1⟩
    unfold f20_4
    refine kfld_of ?_
    refine kld_of (v := .slice s.ba s.bl.length s.bc) hb1 rfl ?_
    rw [klen_slice, kint_lss, kB_bool]
    refine kIf_dec (fun hlt => ?_) (fun hge => ?_)
    · have hlt : j < s.bl.length := by omega
      have htk : (s.bl.map BV.m).take (j + 1) = (s.bl.map BV.m).take j ++ [s.bl[j].m] := by rw [List.take_succ_eq_append_getElem (by omega)]; simp
      have hbj := hbl s.bl[j] (List.getElem_mem hlt)
      have hgj := beingsGood_at s.next (s.bl.map BV.m) 0 j (by omega) (by omega) g7
      rw [List.getElem_map] at hgj
      unfold f20_5
      refine kfld_of ?_
      refine kld_of (v := .slice s.ba s.bl.length s.bc) hb1 rfl ?_
      refine kixldN_of (F := BV.cells) (fun _ => rfl) (by omega) (hba.same hm) hlt rfl ?_
      generalize s.bl[j] = q at *
      obtain ⟨hid, hpok, hsl⟩ := hbj
      obtain ⟨k1, k2, k3, k4⟩ := hgj
      have k1 : lastId 0 ((s.bl.map BV.m).take j) < q.id := k1
      have k2 : q.id < s.next := k2
      have k3 : partsGood (-1) q.parts = true := k3
      have hall := partsGood_all q.parts (-1) k3
      have hplen := partsGood_len q.parts (-1) (by omega) (by omega) k3
      have hpk : ∀ p ∈ q.parts, p.ok ∧ 0 ≤ p.tick := fun p hp => ⟨hpok p hp, (hall p hp).2.2.1⟩
      have hbB := beingB_len (b := q.m) (last := lastId 0 ((s.bl.map BV.m).take j)) hpk (by show q.parts.length ≤ 16; omega) (by show q.id - _ ≤ _; omega)
      have hsn := beingsB_snoc ((s.bl.map BV.m).take j) 0 q.m
      rw [← htk] at hsn
      have hln := lastId_snoc ((s.bl.map BV.m).take j) 0 q.m
      rw [← htk] at hln
      generalize lastId 0 ((s.bl.map BV.m).take j) = last at *
      generalize beingsB 0 ((s.bl.map BV.m).take j) = bb at *
      refine knew_of fun w54 h54 hs54 hb54 => ?_
      refine kst_of (vs := q.cells) hb54 rfl rfl rfl (by simp) (by simp [BV.cells]) fun w55 h55 hs55 hb55 => ?_
      have h55' : Same wl w55.drew := (Mod.after h54 h55 (fun b hb => by omega)).drew
      have hb55 : blk w55.drew wl.heap.size = some (.cells q.cells.toArray 85) := hb55
      generalize w55.drew = we at *
      refine kfld_of ?_
      refine kld_of (v := .int .i64 q.id) hb55 rfl ?_
      refine kG_of rfl ?_
      rw [kint_sub, wrap_i64 (by omega) (by omega)]
      refine kcall_of (refCount_spec (q.id - last) (by omega) (by omega) we) ?_
      rintro v w60 ⟨rfl, h60⟩
      have q1 := groupsF_len64 (n := (q.id - last).toNat) (by omega)
      rw [kstr_add, bs_size, bs_size, bs_append]
      refine kG_of (by simp only [List.length_append]; omega) ?_
      have hb60 := h60.get hb55 (fun h => h)
      refine kfld_of ?_
      refine kld_of (v := .slice q.pa q.parts.length q.pc) hb60 rfl ?_
      refine kG_of rfl ?_
      refine kG_of (kld_of (v := .slice q.pa q.parts.length q.pc) hb55 rfl ⟨rfl, rfl⟩) ?_
      have m60 := hm.trans (h55'.trans h60)
      refine kcall_of (refMask_spec q.parts (fun p hp => by have := hall p hp; omega) (by omega) q.pa q.pc (hsl.same m60)) ?_
      rintro v w65 ⟨rfl, rfl⟩
      have hhas := hasF_lt q.parts
      rw [msk, kcnv_int, wrap_i64 (by omega) (by omega)]
      refine kcall_of (refCount_spec (hasF q.parts : Int) (by omega) (by omega) w65) ?_
      rintro v w68 ⟨rfl, h68⟩
      have q2 := groupsF_len64 (n := hasF q.parts) (by omega)
      rw [kstr_add, bs_size, bs_size, bs_append, Int.toNat_natCast]
      refine kG_of (by simp only [List.length_append]; omega) ?_
      have hb68 := h68.get hb60 (fun h => h)
      have m68 := m60.trans h68
      refine kfld_of ?_
      refine kld_of (v := .int .i64 q.id) hb68 rfl ?_
      have hpl3 : (((pre2 ++ bb) ++ groupsF (q.id - last).toNat) ++ groupsF (hasF q.parts)).length ≤ 100000 := by simp only [List.length_append]; omega
      have hfin : (((pre2 ++ bb) ++ groupsF (q.id - last).toNat) ++ groupsF (hasF q.parts)) ++ q.parts.flatMap partB = pre2 ++ beingsB 0 ((s.bl.map BV.m).take (j + 1)) := by
        rw [hsn]; unfold beingB BV.m; simp
      generalize ((pre2 ++ bb) ++ groupsF (q.id - last).toNat) ++ groupsF (hasF q.parts) = pre3 at *
      refine kL_of (RC q.parts pre3 w68 wl.heap.size q.cells) (fun _ x _ => q.parts.length - (RowKit.intOf x).toNat) ⟨⟨0, by omega, rfl, by simp, Mod.refl _ _, hb68⟩, ?_⟩
      rintro x3 x8 wk ⟨k, hk, rfl, rfl, hmk, hbQ⟩
      have hpkl := partsB_len (l := q.parts.take k) (fun p hp => hpk p (List.mem_of_mem_take hp))
      have htkl : (q.parts.take k).length ≤ 16 := by rw [List.length_take]; omega
      unfold f20_6
      refine kfld_of ?_
      refine kld_of (v := .slice q.pa q.parts.length q.pc) hbQ rfl ?_
      rw [klen_slice, kint_lss, kB_bool]
      refine kIf_dec (fun hlt2 => ?_) (fun hge2 => ?_)
      · have hlt2 : k < q.parts.length := by omega
        have htk2 : (q.parts.take (k + 1)).flatMap partB = (q.parts.take k).flatMap partB ++ partB q.parts[k] := by rw [List.take_succ_eq_append_getElem hlt2, List.flatMap_append, List.flatMap_cons, List.flatMap_nil, List.append_nil]
        refine refPart hbQ (hsl.same (m68.trans hmk)) hpk hlt2 (by omega) (pre3 ++ (q.parts.take k).flatMap partB) (by rw [List.length_append]; omega) _ _ _ _ _ _ fun w' hw' => ?_
        exact ⟨⟨k + 1, by omega, rfl, by rw [htk2, List.append_assoc], hmk.trans hw', hw'.get hbQ (fun h => h)⟩, by simp only [RowKit.intOf, Int.toNat_natCast]; omega⟩
      · have : k = q.parts.length := by omega
        subst this
        rw [List.take_length, hfin]
        unfold f20_17
        rw [kint_add, i64_succ (by omega)]
        refine ⟨⟨j + 1, by omega, rfl, ?_, rfl, ?_, m68.trans hmk, (h55'.trans (h60.trans (h68.trans hmk))).get hb1 (fun h => h)⟩, by simp only [RowKit.intOf, Int.toNat_natCast]; omega⟩
        · rw [hln]; rfl
        · rw [hsn, List.length_append]; omega
    · have : j = s.bl.length := by omega
      subst this
      rw [List.take_of_length_le (by omega), htot]
      unfold f20_18
      exact ⟨rfl, hm⟩
end Go.Proofs.YtcabkicjboedaaaDoor
end
section
namespace Go.Proofs.YtcabkicjboedaaaDoor
open Go Go.Ev
set_option linter.unusedVariables false
set_option linter.unusedSimpArgs false
set_option maxRecDepth 100000

/-! ### What is read is what is written -/
theorem numF_back {great : Nat} {r : RS} (h : (numF great r).2.bad = false) : r.bad = false ∧ r.rest = groupsF (numF great r).1 ++ (numF great r).2.rest ∧ (numF great r).1 < 18446744073709551616 := by
  unfold numF at h ⊢
  split at h
  · rename_i hb; rw [hb] at h; cases h
  · rename_i hb
    rw [if_neg hb]
    split at h
    · cases h
    · rename_i hc
      rw [if_neg hc]
      refine ⟨by simpa using hb, ?_⟩
      simp only
      unfold parseF at hc ⊢
      cases hp : parseGo r.rest 0 0 with
      | none => rw [hp] at hc; simp at hc
      | some p =>
        obtain ⟨m, k⟩ := p
        obtain ⟨n, h1, h2, h3, h4, h5, h6⟩ := groups_parse r.rest 0 0 m k hp
        simp only [Nat.mul_zero, Nat.pow_zero, Nat.mul_one, Nat.zero_add] at h1 h3
        subst h1
        simp only [Option.getD_some]
        exact ⟨by simpa using h5, h3⟩
theorem byteF_back {r : RS} (h : (byteF r).2.bad = false) : r.bad = false ∧ r.rest = UInt8.ofNat (byteF r).1 :: (byteF r).2.rest := by
  unfold byteF at h ⊢
  split at h
  · rename_i hb; rw [hb] at h; cases h
  · rename_i hb
    rw [if_neg hb]
    obtain ⟨rest, bad⟩ := r
    cases rest with
    | nil => cases h
    | cons b t => exact ⟨by simpa using hb, by simp⟩
def SC.good (s : SC) : Prop := s.bad = false ∧ s.r.bad = false
theorem scCount_back {most : Int} {s : SC} (h : (scCount most s).2.good) : s.good ∧ ((scCount most s).1 : Int) ≤ most ∧ s.r.rest = groupsF (scCount most s).1 ++ (scCount most s).2.r.rest := by
  obtain ⟨h1, h2⟩ := h
  have h1' : (s.bad || !decide (((numF M63 s.r).1 : Int) ≤ most)) = false := h1
  have h2' : (numF M63 s.r).2.bad = false := h2
  have hb := numF_back h2'
  simp only [Bool.or_eq_false_iff, Bool.not_eq_false', decide_eq_true_eq] at h1'
  have e : (scCount most s).1 = (numF M63 s.r).1 := by unfold scCount; simp only; rw [if_neg (by simp [h1'])]
  have e2 : (scCount most s).2.r = (numF M63 s.r).2 := rfl
  rw [e, e2]
  exact ⟨⟨h1'.1, hb.1⟩, h1'.2, hb.2.1⟩
theorem valsF_back (n : Int) (s : SC) : ∀ i, (valsF n s i).2.good → s.good ∧ s.r.rest = numsB (valsF n s i).1 ++ (valsF n s i).2.r.rest ∧ ∀ (j : Nat) (z : Int), (valsF n s i).1[j]? = some z → ((j : Int) < n - 1 ∨ z ≠ 0)
  | 0, h => ⟨h, by simp [valsF, numsB], by intro j z h; simp [valsF] at h⟩
  | i + 1, h => by
    obtain ⟨h1, h2⟩ := h
    have h1' : ((valsF n s i).2.bad || !(decide ((i : Int) < n - 1) || decide (unzz (numF M64 (valsF n s i).2.r).1 ≠ 0))) = false := h1
    have hb := numF_back (show (numF M64 (valsF n s i).2.r).2.bad = false from h2)
    simp only [Bool.or_eq_false_iff, Bool.not_eq_false', Bool.or_eq_true, decide_eq_true_eq] at h1'
    obtain ⟨i1, i2, i3⟩ := valsF_back n s i ⟨h1'.1, hb.1⟩
    refine ⟨i1, ?_, ?_⟩
    · show s.r.rest = numsB ((valsF n s i).1 ++ [unzz (numF M64 (valsF n s i).2.r).1]) ++ (numF M64 (valsF n s i).2.r).2.rest
      rw [numsB_snoc, zz_unzz, i2]
      conv => lhs; rw [hb.2.1]
      rw [List.append_assoc]
    · intro j z hz
      have hz : ((valsF n s i).1 ++ [unzz (numF M64 (valsF n s i).2.r).1])[j]? = some z := hz
      have hl := valsF_len1 n s i
      by_cases hj : j < i
      · rw [List.getElem?_append_left (by omega)] at hz
        exact i3 j z hz
      · rw [List.getElem?_append_right (by omega)] at hz
        have : j = i := by
          have := (List.getElem?_eq_some_iff.1 hz).1
          simp at this; omega
        subst this
        rw [hl, Nat.sub_self] at hz
        simp at hz
        rcases h1'.2 with h | h
        · exact .inl h
        · exact .inr (by rw [← hz]; exact h)
theorem trim_pad (comp tick : Int) (zs : List Int) (h4 : zs.length ≤ 4) (hz : ∀ (j : Nat) (z : Int), zs[j]? = some z → ((j : Int) < zs.length - 1 ∨ z ≠ 0)) :
    trimN ⟨comp, zs.getD 0 0, zs.getD 1 0, zs.getD 2 0, zs.getD 3 0, tick⟩ = zs.length ∧ (Part.vals ⟨comp, zs.getD 0 0, zs.getD 1 0, zs.getD 2 0, zs.getD 3 0, tick⟩).take zs.length = zs := by
  match zs, h4, hz with
  | [], _, _ => exact ⟨rfl, rfl⟩
  | [a], _, hz =>
    have := hz 0 a rfl
    have ha : a ≠ 0 := by simpa using this
    exact ⟨by simp [trimN, ha], rfl⟩
  | [a, b], _, hz =>
    have := hz 1 b rfl
    have ha : b ≠ 0 := by simpa using this
    exact ⟨by simp [trimN, ha], rfl⟩
  | [a, b, c], _, hz =>
    have := hz 2 c rfl
    have ha : c ≠ 0 := by simpa using this
    exact ⟨by simp [trimN, ha], rfl⟩
  | [a, b, c, d], _, hz =>
    have := hz 3 d rfl
    have ha : d ≠ 0 := by simpa using this
    exact ⟨by simp [trimN, ha], rfl⟩
theorem partF_back {comp : Int} {s : SC} (h : (partF comp s).2.good) : s.good ∧ s.r.rest = partB (partF comp s).1 ++ (partF comp s).2.r.rest ∧ (partF comp s).1.comp = comp := by
  obtain ⟨h1, h2⟩ := h
  have hn := numF_back (show (numF M63 (valsF (byteF s.r).1 ⟨(byteF s.r).2, s.bad || !decide (((byteF s.r).1 : Int) ≤ 4)⟩ (min (byteF s.r).1 4)).2.r).2.bad = false from h2)
  have hv := valsF_back (byteF s.r).1 ⟨(byteF s.r).2, s.bad || !decide (((byteF s.r).1 : Int) ≤ 4)⟩ (min (byteF s.r).1 4) ⟨h1, hn.1⟩
  obtain ⟨⟨v1, v2⟩, v3, v4⟩ := hv
  have v1' : (s.bad || !decide (((byteF s.r).1 : Int) ≤ 4)) = false := v1
  simp only [Bool.or_eq_false_iff, Bool.not_eq_false', decide_eq_true_eq] at v1'
  have hb := byteF_back (show (byteF s.r).2.bad = false from v2)
  refine ⟨⟨v1'.1, hb.1⟩, ?_, rfl⟩
  have hmin : min (byteF s.r).1 4 = (byteF s.r).1 := by omega
  have hlen := valsF_len1 (byteF s.r).1 ⟨(byteF s.r).2, s.bad || !decide (((byteF s.r).1 : Int) ≤ 4)⟩ (min (byteF s.r).1 4)
  have hF : partF comp s = (⟨comp, (valsF (byteF s.r).1 ⟨(byteF s.r).2, s.bad || !decide (((byteF s.r).1 : Int) ≤ 4)⟩ (min (byteF s.r).1 4)).1.getD 0 0, (valsF (byteF s.r).1 ⟨(byteF s.r).2, s.bad || !decide (((byteF s.r).1 : Int) ≤ 4)⟩ (min (byteF s.r).1 4)).1.getD 1 0, (valsF (byteF s.r).1 ⟨(byteF s.r).2, s.bad || !decide (((byteF s.r).1 : Int) ≤ 4)⟩ (min (byteF s.r).1 4)).1.getD 2 0, (valsF (byteF s.r).1 ⟨(byteF s.r).2, s.bad || !decide (((byteF s.r).1 : Int) ≤ 4)⟩ (min (byteF s.r).1 4)).1.getD 3 0, (numF M63 (valsF (byteF s.r).1 ⟨(byteF s.r).2, s.bad || !decide (((byteF s.r).1 : Int) ≤ 4)⟩ (min (byteF s.r).1 4)).2.r).1⟩, ⟨(numF M63 (valsF (byteF s.r).1 ⟨(byteF s.r).2, s.bad || !decide (((byteF s.r).1 : Int) ≤ 4)⟩ (min (byteF s.r).1 4)).2.r).2, (valsF (byteF s.r).1 ⟨(byteF s.r).2, s.bad || !decide (((byteF s.r).1 : Int) ≤ 4)⟩ (min (byteF s.r).1 4)).2.bad⟩) := rfl
  rw [hF]
  simp only at v3
  generalize hV : valsF (byteF s.r).1 ⟨(byteF s.r).2, s.bad || !decide (((byteF s.r).1 : Int) ≤ 4)⟩ (min (byteF s.r).1 4) = V at *
  rw [hmin] at hlen
  obtain ⟨t1, t2⟩ := trim_pad comp ((numF M63 V.2.r).1 : Int) V.1 (by omega) (fun j z hz => by have := v4 j z hz; omega)
  simp only
  unfold partB
  rw [t1, t2, hlen]
  conv => lhs; rw [hb.2, v3, hn.2.1]
  simp
theorem partsF_back : ∀ (comps : List Nat) (p : List Part × SC), (comps.foldl partsStep p).2.good →
    p.2.good ∧ ∃ new, (comps.foldl partsStep p).1 = p.1 ++ new ∧ p.2.r.rest = new.flatMap partB ++ (comps.foldl partsStep p).2.r.rest ∧ new.map (·.comp) = comps.map fun c : Nat => (c : Int)
  | [], p, h => ⟨h, [], by simp, by simp, rfl⟩
  | c :: comps, p, h => by
    obtain ⟨h1, new, h2, h3, h4⟩ := partsF_back comps (partsStep p c) h
    have e : (List.foldl partsStep p (c :: comps)) = List.foldl partsStep (partsStep p c) comps := rfl
    rw [e, h2]
    generalize hT : (List.foldl partsStep (partsStep p c) comps) = T at *
    unfold partsStep at h1 h3 ⊢
    by_cases hb : p.2.bad = true
    · rw [if_pos hb] at h1
      exact absurd h1.1 (by rw [hb]; decide)
    · rw [if_neg hb] at h1 h3 ⊢
      obtain ⟨g1, g2, g3⟩ := partF_back (comp := (c : Int)) h1
      refine ⟨g1, (partF c p.2).1 :: new, by simp, ?_, by simp [g3, h4]⟩
      rw [g2, List.flatMap_cons, List.append_assoc, ← h3]
theorem hasF_bits : ∀ (l : List Part), (∀ p ∈ l, 0 ≤ p.comp ∧ p.comp < 32) → ∀ i, (hasF l).testBit i = l.any (fun p => decide (p.comp = (i : Int))) := by
  intro l h i
  have key : ∀ (l : List Part) (m : Nat), (∀ p ∈ l, 0 ≤ p.comp ∧ p.comp < 32) → (l.foldl (fun m p => m ||| bitF p.comp) m).testBit i = (m.testBit i || l.any (fun p => decide (p.comp = (i : Int)))) := by
    intro l
    induction l with
    | nil => intro m _; simp
    | cons p l ih =>
      intro m hl
      obtain ⟨p0, p1⟩ := hl p (by simp)
      rw [List.foldl_cons, ih _ (fun q hq => hl q (by simp [hq])), Nat.testBit_or, List.any_cons]
      have e : (bitF p.comp).testBit i = decide (p.comp = (i : Int)) := by
        unfold bitF
        rw [if_neg (by omega), if_neg (by omega), Nat.testBit_two_pow]
        simp only [decide_eq_decide]; omega
      rw [e, Bool.or_assoc]
  have := key l 0 h
  simpa [hasF] using this
theorem hasF_listF {l : List Part} {m : Nat} (hm : m < 4294967296) (h : l.map (·.comp) = (listF m).map fun c : Nat => (c : Int)) : hasF l = m := by
  have hl : ∀ p ∈ l, 0 ≤ p.comp ∧ p.comp < 32 := by
    intro p hp
    have : p.comp ∈ (listF m).map fun c : Nat => (c : Int) := by rw [← h]; exact List.mem_map_of_mem hp
    obtain ⟨c, hc, e⟩ := List.mem_map.1 this
    have := listF_lt m c hc
    omega
  apply Nat.eq_of_testBit_eq
  intro i
  rw [hasF_bits l hl]
  have e : l.any (fun p => decide (p.comp = (i : Int))) = ((listF m).map fun c : Nat => (c : Int)).any (fun c => decide (c = (i : Int))) := by
    rw [← h, List.any_map]; rfl
  rw [e, List.any_map]
  by_cases hi : i < 32
  · cases hb : m.testBit i with
    | true =>
      rw [List.any_eq_true]
      exact ⟨i, by unfold listF; simp [hi, hb], by simp⟩
    | false =>
      rw [List.any_eq_false]
      intro c hc
      simp only [Function.comp, decide_eq_true_eq]
      intro e
      have : c = i := by omega
      subst this
      unfold listF at hc
      simp [hb] at hc
  · rw [Nat.testBit_lt_two_pow (Nat.lt_of_lt_of_le hm (show 2 ^ 32 ≤ 2 ^ i from Nat.pow_le_pow_right (by omega) (by omega))), List.any_eq_false]
    intro c hc
    have := listF_lt m c hc
    simp only [Function.comp, decide_eq_true_eq]
    omega
theorem beingF_back {last : Int} {s : SC} (h : (beingF last s).2.good) : s.good ∧ s.r.rest = beingB last (beingF last s).1 ++ (beingF last s).2.r.rest := by
  obtain ⟨h1, new, h2, h3, h4⟩ := partsF_back (listF (numF M32 (scCount 1073741824 s).2.r).1) ([], ⟨(numF M32 (scCount 1073741824 s).2.r).2, (scCount 1073741824 s).2.bad || !decide ((numF M32 (scCount 1073741824 s).2.r).1 / 65536 = 0)⟩) h
  obtain ⟨k1, k2⟩ := h1
  have k1' : ((scCount 1073741824 s).2.bad || !decide ((numF M32 (scCount 1073741824 s).2.r).1 / 65536 = 0)) = false := k1
  simp only [Bool.or_eq_false_iff, Bool.not_eq_false', decide_eq_true_eq] at k1'
  have hn := numF_back (show (numF M32 (scCount 1073741824 s).2.r).2.bad = false from k2)
  obtain ⟨c1, c2, c3⟩ := scCount_back (most := 1073741824) (s := s) ⟨k1'.1, hn.1⟩
  refine ⟨c1, ?_⟩
  have hhas := hasF_listF (l := new) (m := (numF M32 (scCount 1073741824 s).2.r).1) (by omega) h4
  have hB : (beingF last s).1 = ⟨last + (scCount 1073741824 s).1, new⟩ := by
    have : (beingF last s).1 = ⟨last + (scCount 1073741824 s).1, (partsF ⟨(numF M32 (scCount 1073741824 s).2.r).2, (scCount 1073741824 s).2.bad || !decide ((numF M32 (scCount 1073741824 s).2.r).1 / 65536 = 0)⟩ (listF (numF M32 (scCount 1073741824 s).2.r).1)).1⟩ := rfl
    rw [this]
    unfold partsF
    rw [h2]; simp
  have hT : (beingF last s).2 = (List.foldl partsStep ([], (⟨(numF M32 (scCount 1073741824 s).2.r).2, (scCount 1073741824 s).2.bad || !decide ((numF M32 (scCount 1073741824 s).2.r).1 / 65536 = 0)⟩ : SC)) (listF (numF M32 (scCount 1073741824 s).2.r).1)).2 := rfl
  rw [hB, hT]
  unfold beingB
  simp only [hhas]
  have e : (last + ((scCount 1073741824 s).1 : Int) - last).toNat = (scCount 1073741824 s).1 := by omega
  rw [e]
  conv => lhs; rw [c3, hn.2.1]
  simp only at h3
  rw [h3]
  simp
theorem resF_back (s : SC) : ∀ i, (resF s i).2.good → s.good ∧ s.r.rest = numsB (resF s i).1 ++ (resF s i).2.r.rest
  | 0, h => ⟨h, by simp [resF, numsB]⟩
  | i + 1, h => by
    have hb := numF_back (show (numF M64 (resF s i).2.r).2.bad = false from h.2)
    obtain ⟨i1, i2⟩ := resF_back s i ⟨h.1, hb.1⟩
    refine ⟨i1, ?_⟩
    show s.r.rest = numsB ((resF s i).1 ++ [unzz (numF M64 (resF s i).2.r).1]) ++ (numF M64 (resF s i).2.r).2.rest
    rw [numsB_snoc, zz_unzz, i2]
    conv => lhs; rw [hb.2.1]
    rw [List.append_assoc]
theorem bgsF_back (s : SC) : ∀ i, (bgsF s i).2.good → s.good ∧ s.r.rest = beingsB 0 (bgsF s i).1.1 ++ (bgsF s i).2.r.rest ∧ (bgsF s i).1.2 = lastId 0 (bgsF s i).1.1
  | 0, h => ⟨h, by simp [bgsF, beingsB], rfl⟩
  | i + 1, h => by
    obtain ⟨b1, b2⟩ := beingF_back (show (beingF (bgsF s i).1.2 (bgsF s i).2).2.good from h)
    obtain ⟨i1, i2, i3⟩ := bgsF_back s i b1
    refine ⟨i1, ?_, ?_⟩
    · show s.r.rest = beingsB 0 ((bgsF s i).1.1 ++ [(beingF (bgsF s i).1.2 (bgsF s i).2).1]) ++ (beingF (bgsF s i).1.2 (bgsF s i).2).2.r.rest
      rw [beingsB_snoc, ← i3, List.append_assoc, ← b2, i2]
    · show (beingF (bgsF s i).1.2 (bgsF s i).2).1.id = lastId 0 ((bgsF s i).1.1 ++ [(beingF (bgsF s i).1.2 (bgsF s i).2).1])
      rw [lastId_snoc]
/-- WHAT IS READ IS WHAT IS WRITTEN. -/
theorem read_law (l : List UInt8) (h : okEnd (readF l).1 (readF l).2 = true) : bytesF (readF l).1 = l ∧ goodF (readF l).1 = true := by
  unfold okEnd at h
  simp only [Bool.and_eq_true, Bool.not_eq_true', decide_eq_true_eq] at h
  obtain ⟨h1, h2, h3, h4⟩ := h
  refine ⟨?_, h4⟩
  have hq := bgsF_back (scCount 64 (resF (scCount 8 (head3 l).2).2 (scCount 8 (head3 l).2).1).2).2 (scCount 64 (resF (scCount 8 (head3 l).2).2 (scCount 8 (head3 l).2).1).2).1 ⟨h1, h2⟩
  obtain ⟨q1, q2, _⟩ := hq
  obtain ⟨n1, n2, n3⟩ := scCount_back q1
  obtain ⟨p1, p2⟩ := resF_back _ _ n1
  obtain ⟨k1, k2, k3⟩ := scCount_back p1
  have c0 := numF_back (show (numF M64 (numF M63 (numF M63 ⟨l, false⟩).2).2).2.bad = false from k1.2)
  have b0 := numF_back c0.1
  have a0 := numF_back b0.1
  have hm : (readF l).1 = ⟨((numF M63 ⟨l, false⟩).1 : Int), ((numF M63 (numF M63 ⟨l, false⟩).2).1 : Int), unzz (numF M64 (numF M63 (numF M63 ⟨l, false⟩).2).2).1,
    (bgsF (scCount 64 (resF (scCount 8 (head3 l).2).2 (scCount 8 (head3 l).2).1).2).2 (scCount 64 (resF (scCount 8 (head3 l).2).2 (scCount 8 (head3 l).2).1).2).1).1.1, (resF (scCount 8 (head3 l).2).2 (scCount 8 (head3 l).2).1).1⟩ := rfl
  have hr : (readF l).2 = (bgsF (scCount 64 (resF (scCount 8 (head3 l).2).2 (scCount 8 (head3 l).2).1).2).2 (scCount 64 (resF (scCount 8 (head3 l).2).2 (scCount 8 (head3 l).2).1).2).1).2 := rfl
  have hh : (head3 l).2.r = (numF M64 (numF M63 (numF M63 ⟨l, false⟩).2).2).2 := rfl
  rw [hr] at h3
  rw [hm]
  unfold bytesF
  simp only [Int.toNat_natCast, zz_unzz, resF_len, bgsF_len]
  have e1 : l = groupsF (numF M63 ⟨l, false⟩).1 ++ (numF M63 ⟨l, false⟩).2.rest := a0.2.1
  have e4 := k3
  rw [hh] at e4
  rw [h3, List.append_nil] at q2
  conv => rhs; rw [e1, b0.2.1, c0.2.1, e4, p2, n3, q2]
end Go.Proofs.YtcabkicjboedaaaDoor
end
