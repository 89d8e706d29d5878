/-
Lemmas for the statements of this seat: no statement of the seat is proved in this part (5 of 6); the conditions stand in each theorem.
-/
import Derived.Test.YtmdcoaljjnbhlaaGreatDoorMnob4
set_option linter.unusedSimpArgs false
set_option linter.unusedVariables false
set_option maxRecDepth 100000
namespace Go.Proofs.YtmdcoaljjnbhlaaGreatDoor
open Go Go.Ev
section
attribute [local irreducible] kO kB kStr kInt kN kG kIf kfld kld kldN kst knew kmap kbld kbldS kext kcnv klenStr klen kcap kprt kprtN kbool kint kstr keq kun ksl kix kiv kta kmk kmm ksem ksemU kextf kcallV kcallM kcall kL
theorem Out.back {c : WC} {w0 : World} {fx fx' : Nat → Prop} {w w8 w' : World} {S : SM} {t : Nat} {B : BdM} {res : Option (List (Nat × List Part) × Nat)} (h : Out c w0 fx' w8 S t B res w') (hs : ∀ k, fx k → fx' k) (m : Same w w8) (h1 : ∀ k, c.mine k → fx k) : Out c w0 fx w S t B res w' := by
 obtain ⟨S', B', hW, hg, hm, hv, hn⟩ := h
 exact ⟨S', B', hW.less hs h1, hg, (Mod.of_same m).trans (hm.mono fun k _ hk => ⟨hk.1, fun hx => hk.2 (hs k hx)⟩), hv, hn⟩
theorem WdAt.ext {c : WC} {w0 : World} {fx : Nat → Prop} {w w' : World} {S : SM} {t : Nat} {B : BdM} (h : WdAt c w0 fx w S t B) (m : Same w w') : WdAt c w0 (fun k => fx k ∨ (w.heap.size ≤ k ∧ k < w'.heap.size)) w' S t B :=
 h.other m fun k hk => hk.elim
theorem Out.then {c : WC} {w0 : World} {fx fx1 : Nat → Prop} {w w1 w2 w' : World} {S : SM} {t : Nat} {B : BdM} {res : Option (List (Nat × List Part) × Nat)} (h : WdAt c w0 fx w S t B) (hO : Out c w0 fx1 w1 S t B res w2) (hs : ∀ k, fx k → fx1 k) (m : Same w w1) (m2 : Mod (fun k => w.heap.size ≤ k ∧ fx1 k) w2 w') : Out c w0 fx w S t B res w' := by
 obtain ⟨S', B', hW, hg, hm, hv, hn⟩ := hO
 have hz := h.A.same0.size
 have hlt := fun k hk => (h.A.lt (k := k) hk).2
 refine ⟨S', B', (hW.other m2 fun k hk => ⟨hk.2, fun e => ?_⟩).less (fun k hk => .inl (hs k hk)) h.fm, hg, ?_, hv, hn⟩
 ·have := hlt _ (h.fm k e); omega
 ·exact ((Mod.of_same m).trans (hm.mono fun k _ hk => ⟨hk.1, fun hx => hk.2 (hs k hx)⟩)).trans' (m2.mono fun k _ e => .inr e.1)
theorem wFrame {c : WC} {w : World} (h : blk w c.bw = some (.cells c.cells 106)) : Meets Tryz.prog 140 #[.pointer (some ⟨c.bw, 0, none⟩)] w fun v w' => v = .int .i64 c.frame ∧ w' = w := by
 refine f140_ok ?_
 unfold f140
 rw [keq_ptr_nil ptWor]
 refine kB_at ?_
 refine kIf_F rfl ?_
 unfold f140_0
 refine kN_at ?_
 refine kfld_of ?_
 refine kld_of (v := .int .i64 c.frame) h rfl ?_
 exact ⟨rfl, rfl⟩
end
section
structure OC where
 bo : Nat
 ca : Option Addr
 cc : Nat
 rv : Value
 L : List Comp
 most : Nat
def OC.cells (o : OC) (sv : Value) (gv dr : Nat) : Array Value := #[.slice o.ca o.L.length o.cc, o.rv, natV o.most, sv, natV gv, natV dr]
def OrdM.ok (x : OrdM) : Prop := I64 x.kind ∧ I64 x.id ∧ x.mask < 4294967296 ∧ I64 x.comp
structure OAt (o : OC) (U : Nat → Prop) (w : World) (l : List OrdM) (gv dr : Nat) : Prop where
 ex : ∃ sv, blk w o.bo = some (.cells (o.cells sv gv dr) 140) ∧ Own w sv 4 (l.flatMap OrdM.cells) ∧ ∀ k, vblk sv k → U k ∧ k ≠ o.bo ∧ ∀ f, o.ca ≠ some ⟨k, f, none⟩
 comps : SlIs w o.ca o.L.length 7 (o.L.flatMap Comp.cells)
 own : U o.bo
 ca : ∀ k f, o.ca = some ⟨k, f, none⟩ → U k ∧ k ≠ o.bo
 good : GoodSc o.L
 rvc : o.rv.cells = #[o.rv]
 fit : ∀ x ∈ l, x.fit o.L.length ∧ x.ok
theorem OAt.mod {o : OC} {U fp : Nat → Prop} {w w' : World} {l : List OrdM} {gv dr : Nat} (h : OAt o U w l gv dr) (m : Mod fp w w') (hf : ∀ k, U k → ¬ fp k) : OAt o U w' l gv dr := by
 obtain ⟨⟨sv, h1, h2, h3⟩, h4, h5, h6, h7, h8, h9⟩ := h
 exact ⟨⟨sv, m.get h1 (hf _ h5), h2.mod m (fun k hk => hf k (h3 k hk).1), h3⟩, h4.mod m (fun k f e => hf k (h6 k f e).1), h5, h6, h7, h8, h9⟩
theorem OAt.same {o : OC} {U : Nat → Prop} {w w' : World} {l : List OrdM} {gv dr : Nat} (h : OAt o U w l gv dr) (m : Same w w') : OAt o U w' l gv dr := h.mod m fun _ _ h => h
theorem sl_lt {w : World} {a : Option Addr} {n sz : Nat} {vs : List Value} (h : SlIs w a n sz vs) (hn : 0 < n) (hs : 0 < sz) : ∀ k f, a = some ⟨k, f, none⟩ → k < w.heap.size := by
 intro k f e
 obtain ⟨b, o, c, t, z, e2, hb, _⟩ := h.at hn hs
 rw [e] at e2
 cases e2
 exact lt_of_blk hb
theorem OAt.cut {o : OC} {U : Nat → Prop} {w : World} {l : List OrdM} {gv dr : Nat} (h : OAt o U w l gv dr) (h0 : 0 < o.L.length) : OAt o (fun k => U k ∧ k < w.heap.size) w l gv dr := by
 obtain ⟨⟨sv, h1, h2, h3⟩, h4, h5, h6, h7, h8, h9⟩ := h
 exact ⟨⟨sv, h1, h2, fun k hk => ⟨⟨(h3 k hk).1, h2.vblk_lt hk⟩, (h3 k hk).2⟩⟩, h4, ⟨h5, lt_of_blk h1⟩, fun k f e => ⟨⟨(h6 k f e).1, sl_lt h4 h0 (by omega) k f e⟩, (h6 k f e).2⟩, h7, h8, h9⟩
structure Pair (c : WC) (w0 : World) (o : OC) (X : Nat → Prop) (w : World) (S : SM) (t : Nat) (B : BdM) (l : List OrdM) (gv dr : Nat) : Prop where
 ex : ∃ fx U, WdAt c w0 fx w S t B ∧ OAt o U w l gv dr ∧ (∀ k, U k → fx k ∧ ¬ X k ∧ ¬ c.mine k) ∧ ∀ k, X k → fx k
 pos : 0 < o.L.length
theorem Pair.order {c : WC} {w0 : World} {o : OC} {X fx U : Nat → Prop} {w w' : World} {S : SM} {t : Nat} {B : BdM} {l' : List OrdM} {gv' dr' : Nat} (h0 : 0 < o.L.length) (hW : WdAt c w0 fx w S t B) (hU : ∀ k, U k → fx k ∧ ¬ X k ∧ ¬ c.mine k) (hX : ∀ k, X k → fx k)
  (hO : OAt o (fun k => U k ∨ w.heap.size ≤ k) w' l' gv' dr') (m : Mod U w w') : Pair c w0 o X w' S t B l' gv' dr' ∧ Mod (fun k => w0.heap.size ≤ k ∧ ¬ X k) w w' := by
 refine ⟨⟨⟨_, _, hW.other m (fun k hk => ⟨(hU k hk).1, (hU k hk).2.2⟩), hO.cut h0, fun k hk => ?_, fun k hk => .inl (hX k hk)⟩, h0⟩, m.mono fun k _ hk => ⟨(hW.A.lt (hU k hk).1).1, (hU k hk).2.1⟩⟩
 obtain ⟨hk, hlt⟩ := hk
 rcases hk with hk | hk
 ·exact ⟨.inl (hU k hk).1, (hU k hk).2⟩
 ·refine ⟨.inr ⟨hk, hlt⟩, fun hx => ?_, fun e => ?_⟩
  ·have := (hW.A.lt (hX k hx)).2; omega
  ·have := (hW.A.lt (hW.fm k e)).2; omega
theorem Pair.act {c : WC} {w0 : World} {o : OC} {X fx U : Nat → Prop} {w w' : World} {S' : SM} {t' : Nat} {B' : BdM} {l : List OrdM} {gv dr : Nat} (h0 : 0 < o.L.length) (hO : OAt o U w l gv dr) (hU : ∀ k, U k → fx k ∧ ¬ X k ∧ ¬ c.mine k) (hX : ∀ k, X k → fx k)
  (hW' : WdAt c w0 fx w' S' t' B') (m : Mod (fun k => w0.heap.size ≤ k ∧ ¬ fx k) w w') : Pair c w0 o X w' S' t' B' l gv dr ∧ Mod (fun k => w0.heap.size ≤ k ∧ ¬ X k) w w' :=
 ⟨⟨⟨fx, U, hW', hO.mod m (fun k hk hn => hn.2 (hU k hk).1), hU, hX⟩, h0⟩, m.mono fun k _ hk => ⟨hk.1, fun hx => hk.2 (hX k hx)⟩⟩
theorem Pair.grow {c : WC} {w0 : World} {o : OC} {X : Nat → Prop} {w w' : World} {S : SM} {t : Nat} {B : BdM} {l : List OrdM} {gv dr : Nat} (h : Pair c w0 o X w S t B l gv dr) {fp : Nat → Prop} (m : Mod fp w w') (hp : ∀ k, fp k → X k ∧ ¬ c.mine k) : Pair c w0 o (fun k => X k ∨ (w.heap.size ≤ k ∧ k < w'.heap.size)) w' S t B l gv dr := by
 obtain ⟨⟨fx, U, hW, hO, hU, hX⟩, h0⟩ := h
 refine ⟨⟨_, U, hW.other m (fun k hk => ⟨hX k (hp k hk).1, (hp k hk).2⟩), hO.mod m (fun k hk hf => (hU k hk).2.1 (hp k hf).1), fun k hk => ⟨.inl (hU k hk).1, fun hx => ?_, (hU k hk).2.2⟩, fun k hk => ?_⟩, h0⟩
 ·rcases hx with hx | hx
  ·exact (hU k hk).2.1 hx
  ·have := (hW.A.lt (hU k hk).1).2; omega
 ·rcases hk with hk | hk
  ·exact .inl (hX k hk)
  ·exact .inr hk
theorem Pair.loc {c : WC} {w0 : World} {o : OC} {X : Nat → Prop} {w w' : World} {S : SM} {t : Nat} {B : BdM} {l : List OrdM} {gv dr : Nat} (h : Pair c w0 o X w S t B l gv dr) (m : Same w w') : Pair c w0 o X w' S t B l gv dr := by
 obtain ⟨⟨fx, U, hW, hO, hU, hX⟩, h0⟩ := h
 exact ⟨⟨fx, U, hW.loc m, hO.same m, hU, hX⟩, h0⟩
theorem Pair.less {c : WC} {w0 : World} {o : OC} {X X' : Nat → Prop} {w : World} {S : SM} {t : Nat} {B : BdM} {l : List OrdM} {gv dr : Nat} (h : Pair c w0 o X w S t B l gv dr) (hs : ∀ k, X' k → X k) : Pair c w0 o X' w S t B l gv dr := by
 obtain ⟨⟨fx, U, hW, hO, hU, hX⟩, h0⟩ := h
 exact ⟨⟨fx, U, hW, hO, fun k hk => ⟨(hU k hk).1, fun hx => (hU k hk).2.1 (hs k hx), (hU k hk).2.2⟩, fun k hk => hX k (hs k hk)⟩, h0⟩
theorem Pair.lt {c : WC} {w0 : World} {o : OC} {X : Nat → Prop} {w : World} {S : SM} {t : Nat} {B : BdM} {l : List OrdM} {gv dr : Nat} (h : Pair c w0 o X w S t B l gv dr) {k : Nat} (hk : X k) : w0.heap.size ≤ k ∧ k < w.heap.size := by
 obtain ⟨⟨fx, U, hW, hO, hU, hX⟩, h0⟩ := h
 exact hW.A.lt (hX k hk)
theorem Pair.same0 {c : WC} {w0 : World} {o : OC} {X : Nat → Prop} {w : World} {S : SM} {t : Nat} {B : BdM} {l : List OrdM} {gv dr : Nat} (h : Pair c w0 o X w S t B l gv dr) : Same w0 w := by
 obtain ⟨⟨fx, U, hW, hO, hU, hX⟩, h0⟩ := h
 exact hW.A.same0
theorem WdAt.base {c : WC} {w00 w0 : World} {fx : Nat → Prop} {w : World} {S : SM} {t : Nat} {B : BdM} (h : WdAt c w0 fx w S t B) (m : Same w00 w0) : WdAt c w00 (fun k => fx k ∨ (w00.heap.size ≤ k ∧ k < w0.heap.size)) w S t B := by
 have hz := m.size
 obtain ⟨o, p, U, C, hb, hU, hf⟩ := h.A
 have hzw := C.same.size
 refine ⟨h.here, fun k hk => .inl (h.fm k hk), h.comps, h.gh, h.go, h.rvc, h.good, h.rl, ⟨o, p, U, ⟨C.sp, C.gs, fun k hk => C.lo k (by omega), C.hi, m.trans C.same⟩, hb, fun k hk => ⟨by have := (hU k hk).1; omega, (hU k hk).2.1, fun hx => ?_⟩, fun k hk => ?_⟩, h.link, h.cs, h.gi, h.ap⟩
 ·rcases hx with hx | hx
  ·exact (hU k hk).2.2 hx
  ·have := (hU k hk).1; omega
 ·rcases hk with hk | hk
  ·exact ⟨by have := (hf k hk).1; omega, (hf k hk).2⟩
  ·exact ⟨hk.1, by omega, C.lo k hk.2⟩
theorem WdAt.le {c : WC} {w0 : World} {fx : Nat → Prop} {w : World} {S : SM} {t : Nat} {B : BdM} (h : WdAt c w0 fx w S t B) : B.l.length ≤ 64 := h.link.le h.gs.g64
def newB (w w' : World) (X : Nat → Prop) : Nat → Prop := fun k => X k ∨ (w.heap.size ≤ k ∧ k < w'.heap.size)
end
section
abbrev ViewT : Type := List (Nat × List Part)
def okV (V : ViewT) : Prop := ∀ y ∈ V, ∀ q ∈ y.2, q.ok
end
section
attribute [local irreducible] kO kB kStr kInt kN kG kIf kfld kld kldN kst knew kmap kbld kbldS kext kcnv klenStr klen kcap kprt kprtN kbool kint kstr keq kun ksl kix kiv kta kmk kmm ksem ksemU kextf kcallV kcallM kcall kL
instance (n : Nat) (x : OrdM) : Decidable (x.fit n) := by unfold OrdM.fit; infer_instance
def OrdM.val (x : OrdM) : Value := .agg x.cells.toArray
theorem ptOrd : isPtrT Tryz.prog 36 = true := by kernel_rfl
theorem apOrd : appT Tryz.prog 83 4 32 = true := by kernel_rfl
theorem slOrd_is : ∃ e, Tryz.prog.underlying 83 = some (.slice e) := slT_of (by kernel_rfl)
theorem oWrong {Sa : Nat → Addr} {k lo : Nat} {x : Value} {w : World} (h : ErrX Sa k lo x w) (hlo : lo ≤ w.heap.size) : Meets Tryz.prog 75 #[x] w fun v w' => ErrX Sa k lo v w' ∧ Same w w' := by
 refine f75_ok ?_
 unfold f75
 refine kcall_of (atX_spec _ h hlo) ?_
 rintro v w' ⟨h1, h2⟩
 exact ⟨h1, h2⟩
theorem oIs_spec {o : OC} {w : World} {sv : Value} {gv dr : Nat} (h : blk w o.bo = some (.cells (o.cells sv gv dr) 140)) (hn : o.L.length ≤ 32) (x : OrdM) (hx : x.ok) :
  Meets Tryz.prog 191 #[.pointer (some ⟨o.bo, 0, none⟩), x.val] w fun v w' => v = .bool (decide (x.fit o.L.length)) ∧ Same w w' := by
 obtain ⟨h1, h2', h3, h4⟩ := hx
 have hfit : x.fit o.L.length ↔ (x.kind = 1 ∧ x.mask < 2 ^ o.L.length) ∨ x.kind = 2 ∨ ((x.kind = 3 ∨ x.kind = 4) ∧ 0 ≤ x.comp ∧ x.comp < o.L.length) := Iff.rfl
 unfold OrdM.val
 refine f191_ok ?_
 unfold f191
 refine knew_of fun w2 h2 hs2 hb2 => ?_
 have hb2 : blk w2 w.heap.size = some (.cells x.cells.toArray 137) := hb2
 have hh := h2.get h (fun h => h)
 refine kN_at ?_
 refine kfld_of ?_
 refine kfld_of ?_
 refine kld_of (v := .slice o.ca o.L.length o.cc) hh rfl ?_
 refine klen_at ?_
 refine kfld_of ?_
 refine kld_of (v := .int .i64 x.kind) hb2 rfl ?_
 refine eql_at ?_
 refine kB_at ?_
 have rest : ∀ b : Bool, b = decide (x.kind = 3 ∨ x.kind = 4) → x.kind ≠ 1 → x.kind ≠ 2 → f191_0 (.pointer (some ⟨w.heap.size, 0, none⟩)) (.int .i64 o.L.length) (.bool b) (fun v w' => v = .bool (decide (x.fit o.L.length)) ∧ Same w w') w2 := by
  intro b hb n1 n2
  unfold f191_0
  refine kB_at ?_
  refine kIf_of (fun e => ?_) (fun e => ?_)
  ·have h34 : x.kind = 3 ∨ x.kind = 4 := of_decide_eq_true (hb.symm.trans e)
   refine kfld_of ?_
   refine kld_of (v := .int .i64 x.comp) hb2 rfl ?_
   refine geq_at ?_
   refine kB_at ?_
   refine kIf_dec (fun hc => ?_) (fun hc => ?_)
   ·refine kfld_of ?_
    refine kld_of (v := .int .i64 x.comp) hb2 rfl ?_
    refine lss_at ?_
    refine ⟨?_, h2⟩
    congr 1
    rw [decide_eq_decide, hfit]
    omega
   ·refine ⟨?_, h2⟩
    congr 1
    symm
    rw [decide_eq_false_iff_not, hfit]
    omega
  ·have h34 : ¬ (x.kind = 3 ∨ x.kind = 4) := of_decide_eq_false (hb.symm.trans e)
   unfold f191_1
   refine ⟨?_, h2⟩
   congr 1
   symm
   rw [decide_eq_false_iff_not, hfit]
   omega
 refine kIf_dec (fun e1 => ?_) (fun e1 => ?_)
 ·refine kfld_of ?_
  refine kld_of (v := msk x.mask) hb2 rfl ?_
  rw [msk, kint_shr]
  refine kG_of (by omega) ?_
  rw [shr_nat x.mask o.L.length (by show o.L.length ≤ 32; omega)]
  refine eql_at ?_
  refine ⟨?_, h2⟩
  congr 1
  rw [decide_eq_decide, hfit]
  have hp : 0 < 2 ^ o.L.length := Nat.pow_pos (by omega)
  constructor
  ·intro e
   have e : x.mask / 2 ^ o.L.length = 0 := by omega
   exact .inl ⟨e1, by rcases (Nat.div_eq_zero_iff).1 e with h | h; omega; exact h⟩
  ·intro e
   have : x.mask < 2 ^ o.L.length := by
    rcases e with e | e | e
    ·exact e.2
    ·omega
    ·omega
   rw [Nat.div_eq_of_lt this]; rfl
 ·refine eql_at ?_
  refine kB_at ?_
  refine kIf_dec (fun e2 => ?_) (fun e2 => ?_)
  ·refine ⟨?_, h2⟩
   congr 1
   symm
   rw [decide_eq_true_eq, hfit]
   omega
  ·refine eql_at ?_
   refine kB_at ?_
   refine kIf_dec (fun e3 => ?_) (fun e3 => ?_)
   ·rw [decT e3]
    exact rest true (by rw [decT (Or.inl e3)]) e1 e2
   ·refine eql_at ?_
    refine rest _ ?_ e1 e2
    rw [decide_eq_decide]
    omega
theorem oAdd_bad {pr : Nat → Prop} {Sa : Nat → Addr} {o : OC} {U : Nat → Prop} {w : World} {l : List OrdM} {gv dr : Nat} (hL : LaidP pr Sa w) (h1 : pr 1) (h : OAt o U w l gv dr) (x : OrdM) (hx : x.ok) (hb : ¬ x.fit o.L.length) :
  Meets Tryz.prog 144 #[.pointer (some ⟨o.bo, 0, none⟩), x.val] w fun v w' => ErrX Sa 1 w.heap.size v w' ∧ Same w w' := by
 have hl := h.good.len
 obtain ⟨sv, hh, hO, hv⟩ := h.ex
 unfold OrdM.val
 refine f144_ok ?_
 unfold f144
 refine knew_of fun w2 h2 hs2 hb2 => ?_
 have hb2 : blk w2 w.heap.size = some (.cells x.cells.toArray 137) := hb2
 have hh2 := h2.get hh (fun h => h)
 rw [keq_ptr_nil ptOrd]
 refine kB_at ?_
 refine kIf_F rfl ?_
 refine kldN_at (cs := x.cells) hb2 rfl (by omega) ?_
 have his := oIs_spec hh2 (by omega) x hx
 rw [OrdM.val] at his
 refine kcall_of his ?_
 rintro v w10 ⟨rfl, h10⟩
 refine not_at ?_
 rw [decF hb]
 refine kB_at ?_
 refine kIf_T rfl ?_
 refine kld_err (hL.same (h2.trans h10)) h1 rfl rfl ?_
 have hz := (h2.trans h10).size
 refine kcall_of (oWrong (ErrX.sent Sa 1 w.heap.size w10) hz) ?_
 rintro v w14 ⟨hE, h14⟩
 exact ⟨hE, (h2.trans h10).trans h14⟩
theorem oAdd_full {pr : Nat → Prop} {Sa : Nat → Addr} {o : OC} {U : Nat → Prop} {w0 w : World} {l : List OrdM} {gv dr : Nat} (hL : LaidP pr Sa w0) (h6 : pr 6) (hs0 : Same w0 w) (hlo : ∀ k, U k → w0.heap.size ≤ k) (h : OAt o U w l gv dr) (x : OrdM) (hx : x.ok) (hb : x.fit o.L.length) (hf : o.most ≤ gv) (hdr : dr ≤ 1000000) :
  Meets Tryz.prog 144 #[.pointer (some ⟨o.bo, 0, none⟩), x.val] w fun v w' => ErrX Sa 6 w.heap.size v w' ∧ OAt o U w' l gv (dr + 1) ∧ Mod U w w' := by
 have hl := h.good.len
 obtain ⟨⟨sv, hh, hO, hv⟩, hcm, hown, hca, hgood, hrv, hfit⟩ := h
 have hbl := lt_of_blk hh
 unfold OrdM.val
 refine f144_ok ?_
 unfold f144
 refine knew_of fun w2 h2 hs2 hb2 => ?_
 have hb2 : blk w2 w.heap.size = some (.cells x.cells.toArray 137) := hb2
 have hh2 := h2.get hh (fun h => h)
 rw [keq_ptr_nil ptOrd]
 refine kB_at ?_
 refine kIf_F rfl ?_
 refine kldN_at (cs := x.cells) hb2 rfl (by omega) ?_
 have his := oIs_spec hh2 (by omega) x hx
 rw [OrdM.val] at his
 refine kcall_of his ?_
 rintro v w10 ⟨rfl, h10⟩
 refine not_at ?_
 rw [decT hb]
 refine kB_at ?_
 refine kIf_F rfl ?_
 have md : Same w10 w10.drew := (Mod.refl (fun _ => False) _).drew
 have mw : Same w w10.drew := (h2.trans h10).trans md
 have hhd := mw.get hh (fun h => h)
 have hz := mw.size
 generalize w10.drew = wd at *
 refine kN_at ?_
 refine kfld_of ?_
 refine kld_of (v := natV gv) hhd rfl ?_
 refine kG_of rfl ?_
 refine kN_at ?_
 refine kfld_of ?_
 refine kld_of (v := natV o.most) hhd rfl ?_
 refine kG_of rfl ?_
 refine geq_at ?_
 rw [decT (by omega)]
 refine kB_at ?_
 refine kIf_T rfl ?_
 refine kN_at ?_
 refine kfld_of ?_
 refine kld_of (v := natV dr) hhd rfl ?_
 refine add_at (by omega) (by omega) ?_
 refine kN_at ?_
 refine kfld_of ?_
 refine kst1_of hhd rfl rfl (by show 5 < 6; omega) fun w24 h24 hs24 hb24 => ?_
 have hb24 : blk w24 o.bo = some (.cells (o.cells sv gv (dr + 1)) 140) := hb24
 have m24 : Mod (fun k => k = o.bo) w w24 := (Mod.of_same mw).trans h24
 have hbo := hlo _ hown
 have s024 : Same w0 w24 := hs0.trans' (m24.mono fun k _ e => .inr (by omega))
 refine kld_err (hL.same s024) h6 rfl rfl ?_
 refine kcall_of (oWrong (ErrX.sent Sa 6 w.heap.size w24) m24.size) ?_
 rintro v w27 ⟨hE, h27⟩
 have m27 : Mod (fun k => k = o.bo) w w27 := m24.trans (Mod.of_same h27)
 exact ⟨hE, ⟨⟨sv, h27.get hb24 (fun h => h), hO.mod m27 (fun k hk e => (hv k hk).2.1 e), hv⟩, hcm.mod m27 (fun k f e hk => (hca k f e).2 hk), hown, hca, hgood, hrv, hfit⟩, m27.mono fun k _ e => by rw [e]; exact hown⟩
theorem oAdd_ok {o : OC} {U : Nat → Prop} {w : World} {l : List OrdM} {gv dr : Nat} (h : OAt o U w l gv dr) (x : OrdM) (hx : x.ok) (hb : x.fit o.L.length) (hf : gv < o.most) (hmo : o.most ≤ 1000000) (hln : l.length ≤ 1000000) (h0 : 0 < o.L.length) :
  Meets Tryz.prog 144 #[.pointer (some ⟨o.bo, 0, none⟩), x.val] w fun v w' => v = .nilIface ∧ OAt o (fun k => U k ∨ w.heap.size ≤ k) w' (l ++ [x]) (gv + 1) dr ∧ Mod U w w' := by
 have hl := h.good.len
 obtain ⟨⟨sv, hh, hO, hv⟩, hcm, hown, hca, hgood, hrv, hfit⟩ := h
 have hbl := lt_of_blk hh
 have hfl := flat_len OrdM.cells 4 (fun _ => rfl) l
 unfold OrdM.val
 refine f144_ok ?_
 unfold f144
 refine knew_of fun w2 h2 hs2 hb2 => ?_
 have hb2 : blk w2 w.heap.size = some (.cells x.cells.toArray 137) := hb2
 have hh2 := h2.get hh (fun h => h)
 rw [keq_ptr_nil ptOrd]
 refine kB_at ?_
 refine kIf_F rfl ?_
 refine kldN_at (cs := x.cells) hb2 rfl (by omega) ?_
 have his := oIs_spec hh2 (by omega) x hx
 rw [OrdM.val] at his
 refine kcall_of his ?_
 rintro v w10 ⟨rfl, h10⟩
 refine not_at ?_
 rw [decT hb]
 refine kB_at ?_
 refine kIf_F rfl ?_
 have md : Same w10 w10.drew := (Mod.refl (fun _ => False) _).drew
 have mw : Same w w10.drew := (h2.trans h10).trans md
 have hhd := mw.get hh (fun h => h)
 have hbd := (h10.trans md).get hb2 (fun h => h)
 have hz := mw.size
 generalize w10.drew = wd at *
 refine kN_at ?_
 refine kfld_of ?_
 refine kld_of (v := natV gv) hhd rfl ?_
 refine kG_of rfl ?_
 refine kN_at ?_
 refine kfld_of ?_
 refine kld_of (v := natV o.most) hhd rfl ?_
 refine kG_of rfl ?_
 refine geq_at ?_
 rw [decF (by omega)]
 refine kB_at ?_
 refine kIf_F rfl ?_
 unfold f144_0
 refine kN_at ?_
 refine kfld_of ?_
 refine kld_of (v := natV gv) hhd rfl ?_
 refine add_at (by omega) (by omega) ?_
 refine kN_at ?_
 refine kfld_of ?_
 refine kst1_of hhd rfl rfl (by show 4 < 6; omega) fun w32 h32 hs32 hb32 => ?_
 have hb32 : blk w32 o.bo = some (.cells (o.cells sv (gv + 1) dr) 140) := hb32
 have m32 : Mod (fun k => k = o.bo) w w32 := (Mod.of_same mw).trans h32
 have md2 : Same w32 w32.drew := (Mod.refl (fun _ => False) _).drew
 have m32d := m32.trans (Mod.of_same md2)
 have hhe := md2.get hb32 (fun h => h)
 have hbe := md2.get (h32.get hbd (by omega)) (fun h => h)
 have hOd : Own w32.drew sv 4 (l.flatMap OrdM.cells) := hO.mod m32d (fun k hk e => (hv k hk).2.1 e)
 have hzd := m32d.size
 generalize w32.drew = we at *
 refine kN_at ?_
 refine kfld_of ?_
 refine kld_of (v := sv) hhe rfl ?_
 refine kG_of rfl ?_
 refine kldN_at (cs := x.cells) hbe rfl (by omega) ?_
 refine kG_of rfl ?_
 refine kbldS_of (cs := x.cells) rfl fun w37 h37 hs37 hb37 => ?_
 refine kG_of (kld_of (v := sv) (h37.get hhe (fun h => h)) rfl ⟨rfl, rfl⟩) ?_
 refine ksem_append apOrd (by omega) (hOd.same h37) (Src.ofSlIs (hk := slOrd_is.choose_spec) 1 (SlIs.blk hb37 rfl) rfl) (by simp [OrdM.cells, hfl]; omega) (by simp [OrdM.cells, hfl]; omega) ?_
 intro v' w39 hO39 m39 hf39
 have hh39 := m39.get (h37.get hhe (fun h => h)) (fun hk => (hv _ hk).2.1 rfl)
 refine kN_at ?_
 refine kfld_of ?_
 obtain ⟨a', n', c', rfl, _, _⟩ := hO39.is
 refine kst1_of hh39 rfl rfl (by show 3 < 6; omega) fun w41 h41 hs41 hb41 => ?_
 have hb41 : blk w41 o.bo = some (.cells (o.cells (.slice a' n' c') (gv + 1) dr) 140) := hb41
 have m37 : Mod (fun k => k = o.bo) w w37 := m32d.trans (Mod.of_same h37)
 have hz37 := m37.size
 have hvn : ∀ k, vblk (.slice a' n' c') k → (vblk sv k ∨ w.heap.size ≤ k) := fun k hk => by
  rcases hf39 k hk with h | h
  ·exact .inl h
  ·exact .inr (by omega)
 have mall : Mod U w w41 := ((m37.mono fun k _ e => by rw [e]; exact hown).trans (m39.mono fun k _ hk => (hv k hk).1)).trans (h41.mono fun k _ e => by rw [e]; exact hown)
 have hcb : ∀ k f, o.ca = some ⟨k, f, none⟩ → ¬ (k = o.bo) ∧ ¬ vblk sv k := fun k f e => ⟨(hca k f e).2, fun hk => (hv k hk).2.2 f e⟩
 refine ⟨rfl, ⟨⟨.slice a' n' c', hb41, ?_, fun k hk => ?_⟩, ?_, .inl hown, fun k f e => ⟨.inl (hca k f e).1, (hca k f e).2⟩, hgood, hrv, fun y hy => ?_⟩, mall⟩
 ·rw [List.flatMap_append]
  have : Own w39 (.slice a' n' c') 4 (l.flatMap OrdM.cells ++ [x].flatMap OrdM.cells) := by simpa using hO39
  refine this.mod h41 fun k hk e => ?_
  rcases hvn k hk with h | h
  ·exact (hv k h).2.1 e
  ·omega
 ·rcases hvn k hk with h | h
  ·exact ⟨.inl (hv k h).1, (hv k h).2⟩
  ·refine ⟨.inr h, by omega, fun f e => ?_⟩
   have := sl_lt hcm h0 (by omega) k f e
   omega
 ·exact ((hcm.mod m37 (fun k f e => (hcb k f e).1)).mod m39 (fun k f e => (hcb k f e).2)).mod h41 (fun k f e => (hcb k f e).1)
 ·rcases List.mem_append.1 hy with hy | hy
  ·exact hfit y hy
  ·have : y = x := by simpa using hy
   subst this; exact ⟨hb, hx⟩
end
section
attribute [local irreducible] kO kB kStr kInt kN kG kIf kfld kld kldN kst knew kmap kbld kbldS kext kcnv klenStr klen kcap kprt kprtN kbool kint kstr keq kun ksl kix kiv kta kmk kmm ksem ksemU kextf kcallV kcallM kcall kL
end
section
attribute [local irreducible] kO kB kStr kInt kN kG kIf kfld kld kldN kst knew kmap kbld kbldS kext kcnv klenStr klen kcap kprt kprtN kbool kint kstr keq kun ksl kix kiv kta kmk kmm ksem ksemU kextf kcallV kcallM kcall kL
end
end Go.Proofs.YtmdcoaljjnbhlaaGreatDoor
namespace Go.Ev
open Go
section
section
variable {P : Program} {kt : TypeId}
theorem text_beq (a b : ByteArray) : (a == b) = decide (a = b) := by
 cases a with | mk a =>
 cases b with | mk b =>
 show (a == b) = _
 rw [Bool.eq_iff_iff, decide_eq_true_eq, ByteArray.mk.injEq]
 exact beq_iff_eq
theorem findNow_entsS (n : ByteArray) : ∀ (i j : Nat) (kv : List (ByteArray × Value)), Instr.findNow .string (.string n) (entsG Value.string i kv) j = some ((lkG n kv).map fun x => (j + x.1, x.2))
 | _, _, [] => by simp [entsG, Instr.findNow, lkG]
 | i, j, (m, v) :: r => by
  simp only [entsG, Instr.findNow, Instr.sameNow, lkG]
  by_cases h : n = m
  ·subst h
   rw [text_beq, decide_eq_true rfl]; simp
  ·rw [text_beq, decide_eq_false h]
   simp only [h, if_false]
   rw [findNow_entsS n (i + 1) (j + 1) r]
   cases lkG n r with
   | none => simp
   | some x => simp; omega
theorem KeyT.string (hk : P.underlying kt = some .string) : KeyT P kt Value.string where
 find n kv w := by
  simp only [Instr.findKey, Sem.run_bind, run_underlying hk, Result.andThen_ok, findNow_entsS, Sem.run_pure]
  cases lkG n kv <;> simp
 check e a w := by
  rw [Instr.checkKey]
  simp [run_underlying hk]
 stays a := by simp [Instr.sameBits, text_beq]
end
end
end Go.Ev
namespace Go.Proofs.YtmdcoaljjnbhlaaGreatDoor
open Go Go.Ev
section
attribute [local irreducible] kO kB kStr kInt kN kG kIf kfld kld kldN kst knew kmap kbld kbldS kext kcnv klenStr klen kcap kprt kprtN kbool kint kstr keq kun ksl kix kiv kta kmk kmm ksem ksemU kextf kcallV kcallM kcall kL
theorem mapGoo : Tryz.prog.underlying 200 = some (.map 9 3) := by kernel_rfl
theorem strKey : Tryz.prog.underlying 9 = some .string := by kernel_rfl
theorem gNew {w : World} {a : Option Addr} {L : List Comp} {cp : Nat} {ra : Option Addr} {R : List ResM} {rc : Nat} (hs : SlIs w a L.length 7 (L.flatMap Comp.cells)) (hG : GoodSc L) (hr : SlIs w ra R.length 2 (R.flatMap ResM.cells)) (hGR : GoodR L R) :
  Meets Tryz.prog 69 #[scV a L.length cp (.slice ra R.length rc)] w fun v w' => (∃ g gm gs, v = .tuple #[.pointer (some ⟨g, 0, none⟩), .nilIface] ∧ w.heap.size ≤ g ∧ blk w' g = some (.cells #[gm, gs, .int .i64 0] 202) ∧ Own w' gs 1 ((R.map (·.value)).map (Value.int .i64)) ∧ ∀ k, vblk gs k → w.heap.size ≤ k ∧ k ≠ g) ∧ Same w w' := by
 have hlR := hGR.len
 rw [scV]
 refine f69_ok ?_
 unfold f69
 refine knew_of fun w2 h2 hs2 hb2 => ?_
 have hb2 : blk w2 w.heap.size = some (.cells #[.slice a L.length cp, .slice ra R.length rc] 78) := hb2
 refine kldN_at (cs := [.slice a L.length cp, .slice ra R.length rc]) hb2 rfl (by omega) ?_
 have hck := checkR_spec (ra := ra) (rc := rc) (cp := cp) (hs.same h2) hG (hr.same h2) hGR
 rw [scV] at hck
 refine kcall_of hck ?_
 rintro v w5 ⟨rfl, h5⟩
 rw [keq_nil_nil' ifErr]
 refine kB_at ?_
 refine kIf_F rfl ?_
 unfold f69_0
 refine kmap_of fun w11 h11 hs11 hm11 => ?_
 refine kbld_of (cs := [.map (some w5.heap.size), .slice none 0 0, .int .i64 0]) rfl ?_
 refine knew_of fun w14 h14 hs14 hb14 => ?_
 have hb14 : blk w14 w11.heap.size = some (.cells #[.map (some w5.heap.size), .slice none 0 0, .int .i64 0] 202) := hb14
 have m14 := (h2.trans h5).trans (h11.trans h14)
 have hz2 := h2.size
 have hz5 := h5.size
 have hmp : MapG Value.string w14 w5.heap.size [] := (show MapG Value.string w11 w5.heap.size [] from hm11 .i64).same h14
 refine kfld_of ?_
 refine kld_of (v := .slice ra R.length rc) ((h5.trans (h11.trans h14)).get hb2 (fun h => h)) rfl ?_
 refine klen_at ?_
 refine kL1_of R.length (fun j y wr => y = .int .i64 j ∧ ∃ gs kv, blk wr w11.heap.size = some (.cells #[.map (some w5.heap.size), gs, .int .i64 0] 202) ∧ MapG Value.string wr w5.heap.size kv ∧ Own wr gs 1 (((R.take j).map (·.value)).map (Value.int .i64)) ∧ (∀ k, vblk gs k → w14.heap.size ≤ k) ∧ Same w wr ∧ w14.heap.size ≤ wr.heap.size) ⟨lI1_0 ⟨rfl, _, _, hb14, hmp, Own.nil _ _, (fun k hk => by obtain ⟨_, _, _, e⟩ := hk; cases e), m14, Nat.le_refl _⟩, fun y wr hx => ?_⟩
 obtain ⟨j, hj, ⟨rfl, gs, kv, hbg, hmr, hO, hgk, hwr, hzr⟩, hJ⟩ := lI1_step hx
 unfold f69_1
 refine lss_at ?_
 refine kB_at ?_
 refine kIf_dec (fun hlt => ?_) (fun hge => ?_)
 ·have hlt : j < R.length := by omega
  have htk : ((R.take (j + 1)).map (·.value)).map (Value.int .i64) = ((R.take j).map (·.value)).map (Value.int .i64) ++ [.int .i64 (R[j]).value] := by
   rw [List.take_succ_eq_append_getElem hlt, List.map_append, List.map_append]; rfl
  have hlo : (((R.take j).map (·.value)).map (Value.int .i64)).length = j := by
   rw [List.length_map, List.length_map, List.length_take]; omega
  unfold f69_2
  refine kixldN_of (F := ResM.cells) (sz := 2) (fun _ => rfl) (by omega) (hr.same hwr) hlt rfl ?_
  refine knew_of fun w23 h23 hs23 hb23 => ?_
  refine kst_of (vs := (R[j]).cells) hb23 rfl rfl rfl (by simp) (by simp [ResM.cells]) fun w24 h24 hs24 hb24 => ?_
  have hb24 : blk w24 wr.heap.size = some (.cells (R[j]).cells.toArray 150) := hb24
  have m24 : Same wr w24 := h23.trans' (h24.mono fun k _ e => .inr (by omega))
  have md : Same w24 w24.drew := (Mod.refl (fun _ => False) _).drew
  have mrd := m24.trans md
  have hb24 := md.get hb24 (fun h => h)
  have hgd := mrd.get hbg (fun h => h)
  have hmd := hmr.same mrd
  have hOd := hO.same mrd
  have hzd := mrd.size
  generalize w24.drew = wd at *
  refine kN_at ?_
  refine kfld_of ?_
  refine kld_of (v := .map (some w5.heap.size)) hgd rfl ?_
  refine kG_of rfl ?_
  refine kfld_of ?_
  refine kld_of (v := .string (R[j]).name) hb24 rfl ?_
  refine kG_of rfl ?_
  refine kmapUpG mapGoo (KeyT.string strKey) hmd fun w30 h30 hs30 hm30 => ?_
  have md2 : Same w30 w30.drew := (Mod.refl (fun _ => False) _).drew
  have hr30 := md2.get (h30.get hb24 (by omega)) (fun h => h)
  have hg30 := md2.get (h30.get hgd (by omega)) (fun h => h)
  have hO30 := (hOd.mod h30 fun k hk e => by have := hgk k hk; omega).same md2
  have hm30 := hm30.same md2
  have n30 : Mod (fun k => k = w5.heap.size) wd w30.drew := h30.trans (Mod.of_same md2)
  have hz30 := n30.size
  generalize w30.drew = we at *
  refine kN_at ?_
  refine kfld_of ?_
  refine kld_of (v := gs) hg30 rfl ?_
  refine kG_of rfl ?_
  refine kfld_of ?_
  refine kld_of (v := .int .i64 (R[j]).value) hr30 rfl ?_
  refine kG_of rfl ?_
  refine kbldS_of (cs := [.int .i64 (R[j]).value]) rfl fun w36 h36 hs36 hb36 => ?_
  refine kG_of (kld_of (v := gs) (h36.get hg30 (fun h => h)) rfl ⟨rfl, rfl⟩) ?_
  refine ksem_append apNums (by omega) (hO30.same h36) (Src.ofSlIs (hk := slNums_is.choose_spec) 1 (SlIs.blk hb36 rfl) rfl) (by rw [hlo]; simp; omega) (by rw [hlo]; simp; omega) ?_
  intro v' w38 hO38 m38 hf38
  have hgk2 : ∀ k, vblk v' k → w14.heap.size ≤ k := fun k hk => by
   rcases hf38 k hk with h | h
   ·exact hgk k h
   ·omega
  have hg38 := m38.get (h36.get hg30 (fun h => h)) (fun hk => by have := hgk _ hk; omega)
  obtain ⟨av, nv, cv, rfl, _, _⟩ := hO38.is
  refine kN_at ?_
  refine kfld_of ?_
  refine kst1_of hg38 rfl rfl (by show 1 < 3; omega) fun w40 h40 hs40 hb40 => ?_
  have hb40 : blk w40 w11.heap.size = some (.cells #[.map (some w5.heap.size), .slice av nv cv, .int .i64 0] 202) := hb40
  unfold f69_3
  refine add_at (by omega) (by omega) ?_
  rw [cast_succ]
  have hz38 := m38.size
  have hz36 := h36.size
  refine hJ _ _ hlt ⟨rfl, .slice av nv cv, _, hb40, ((hm30.same h36).mod m38 (fun hk => by have := hgk _ hk; omega)).mod h40 (by omega), ?_, hgk2, ?_, by omega⟩
  ·rw [htk]
   exact (show Own w38 (.slice av nv cv) 1 (((R.take j).map (·.value)).map (Value.int .i64) ++ [.int .i64 (R[j]).value]) from hO38).mod h40 fun k hk e => by have := hgk2 k hk; omega
  ·exact (((hwr.trans mrd).trans' (n30.mono fun k _ e => .inr (by omega))).trans h36).trans' ((m38.mono fun k _ e => .inr (by have := hgk k e; omega)).trans (h40.mono fun k _ e => .inr (by omega)))
 ·have : j = R.length := by omega
  subst this
  unfold f69_4
  rw [List.take_length] at hO
  exact ⟨⟨_, _, gs, rfl, by omega, hbg, hO, fun k hk => by have := hgk k hk; have := lt_of_blk hb14; omega⟩, hwr⟩
theorem oNewR {w : World} {a : Option Addr} {L : List Comp} {cp : Nat} {ra : Option Addr} {R : List ResM} {rc : Nat} (hs : SlIs w a L.length 7 (L.flatMap Comp.cells)) (hG : GoodSc L) (hr : SlIs w ra R.length 2 (R.flatMap ResM.cells)) (hGR : GoodR L R) (h0 : 0 < L.length) {most : Nat} (hm : most ≤ 64) :
  Meets Tryz.prog 34 #[scV a L.length cp (.slice ra R.length rc), .int .i64 most] w fun v w' => ∃ o : OC, v = .tuple #[.pointer (some ⟨o.bo, 0, none⟩), .nilIface] ∧ o.L = L ∧ o.most = most ∧ OAt o (fun k => w.heap.size ≤ k) w' [] 0 0 ∧ Same w w' := by
 have hl := hG.len
 rw [scV]
 refine f34_ok ?_
 unfold f34
 refine knew_of fun w2 h2 hs2 hb2 => ?_
 have hb2 : blk w2 w.heap.size = some (.cells #[.slice a L.length cp, .slice ra R.length rc] 78) := hb2
 refine kldN_at (cs := [.slice a L.length cp, .slice ra R.length rc]) hb2 rfl (by omega) ?_
 have hck := checkR_spec (ra := ra) (rc := rc) (cp := cp) (hs.same h2) hG (hr.same h2) hGR
 rw [scV] at hck
 refine kcall_of hck ?_
 rintro v w5 ⟨rfl, h5⟩
 rw [keq_nil_nil' ifErr]
 refine kB_at ?_
 refine kIf_F rfl ?_
 unfold f34_0
 refine lss_at ?_
 rw [decF (by omega)]
 refine kB_at ?_
 refine kIf_T rfl ?_
 refine gtr_at ?_
 rw [decF (by omega)]
 unfold f34_1
 refine kB_at ?_
 refine kIf_F rfl ?_
 unfold f34_2
 refine kfld_of ?_
 refine kld_of (v := .slice a L.length cp) (h5.get hb2 (fun h => h)) rfl ?_
 have m5 := h2.trans h5
 have hz5 := m5.size
 refine kcall_of (cloneC_spec (hs.same m5) (by omega)) ?_
 rintro v w19 ⟨hO19, h19, hf19⟩
 obtain ⟨a1, n1, c1, rfl, hs19, _⟩ := hO19.is
 have hfl := flat_len Comp.cells 7 (fun _ => rfl) L
 have hn1 : n1 = L.length := by have h1 := hs19.1; omega
 subst hn1
 refine kbld_of (cs := [.slice a1 L.length c1, .slice none 0 0]) rfl ?_
 refine knew_of fun w22 h22 hs22 hb22 => ?_
 refine kst_of (vs := [.slice a1 L.length c1, .slice none 0 0]) hb22 rfl rfl rfl (by simp) (by simp) fun w23 h23 hs23 hb23 => ?_
 have hb23 : blk w23 w19.heap.size = some (.cells #[.slice a1 L.length c1, .slice none 0 0] 78) := hb23
 have m23 : Same w19 w23 := h22.trans' (h23.mono fun k _ e => .inr (by omega))
 refine kldN_at (cs := [.slice a1 L.length c1, .slice none 0 0]) hb23 rfl (by omega) ?_
 refine kbld_of (cs := [.slice a1 L.length c1, .slice none 0 0, natV most, .slice none 0 0, natV 0, natV 0]) rfl ?_
 refine knew_of fun w27 h27 hs27 hb27 => ?_
 have hz19 := h19.size
 have hz23 := m23.size
 have hlt1 := sl_lt hs19 h0 (by omega)
 refine ⟨⟨w23.heap.size, a1, c1, .slice none 0 0, L, most⟩, rfl, rfl, rfl, ⟨⟨.slice none 0 0, hb27, Own.nil _ _, fun k hk => by obtain ⟨_, _, _, e⟩ := hk; cases e⟩, hs19.same (m23.trans h27), by show w.heap.size ≤ w23.heap.size; omega, fun k f e => ?_, hG, rfl, fun x hx => by cases hx⟩, (m5.trans h19).trans (m23.trans h27)⟩
 have e : a1 = some ⟨k, f, none⟩ := e
 have h1 := hf19 k ⟨f, L.length, c1, by rw [e]⟩
 have h2 := hlt1 k f e
 exact ⟨by omega, by show k ≠ w23.heap.size; omega⟩
theorem newS_link (L : List Comp) (most : Nat) : Link (newS L most) ⟨[], 1⟩ where
 live x hx := by cases hx
 all i g hg := by
  have : (List.replicate most ((0 : Int), false))[i]? = some (g, true) := hg
  obtain ⟨_, e⟩ := List.getElem?_eq_some_iff.1 this
  rw [List.getElem_replicate] at e; cases e
 tm := by simp [newS, newS0, layS]
 cnt := by simp [newS, newS0, layS]
theorem wNew_tail {g : Nat} {gm gs : Value} {w0 w : World} {o : Lab} {b : Nat} {p : Ptrs} {L : List Comp} {most : Nat} (hG : GoodSc L) (C : Cur w0 o w b p (newS L most) 0) {a : Option Addr} {cp : Nat} {ra : Option Addr} {rn rc : Nat} (hs : SlIs w a L.length 7 (L.flatMap Comp.cells)) {bs : Nat} (hbs : blk w bs = some (.cells #[.slice a L.length cp, .slice ra rn rc] 78))
  {a1 : Option Addr} {c1 : Nat} {a2 : Option Addr} {n2 c2 : Nat} (hs1 : SlIs w a1 L.length 7 (L.flatMap Comp.cells)) (ha1 : ∀ k f, a1 = some ⟨k, f, none⟩ → w0.heap.size ≤ k ∧ k < w.heap.size ∧ o k = none) (hag : ∀ k f, a1 = some ⟨k, f, none⟩ → k ≠ g ∧ ¬ vblk gs k) (hsg : ∀ k, vblk gs k → k ≠ g) {bc : Nat} (hbc : blk w bc = some (.cells #[.slice a1 L.length c1, .slice a2 n2 c2] 78)) (seed : Int) {Rv : List Int} (hg : blk w g = some (.cells #[gm, gs, .int .i64 0] 202)) (hglo : w0.heap.size ≤ g ∧ o g = none) (hgo : Own w gs 1 (Rv.map (Value.int .i64))) (hgs : ∀ k, vblk gs k → w0.heap.size ≤ k ∧ o k = none) {Q : Value → World → Prop}
  (hQ : ∀ (c : WC) w', c.L = L → c.frame = 0 → c.seed = seed → c.rolled = rollF (L.map (·.rb)) → c.R = Rv → WdAt c w0 c.mine w' (newS L most) 0 ⟨[], 1⟩ → Q (.tuple #[.pointer (some ⟨c.bw, 0, none⟩), .nilIface]) w') :
  f32_2 (.int .i64 seed) (.pointer (some ⟨bs, 0, none⟩)) (ptrV b) (.pointer (some ⟨g, 0, none⟩)) (.pointer (some ⟨bc, 0, none⟩)) Q w := by
 have hl := hG.len
 rw [ptrV]
 unfold f32_2
 have md : Same w w.drew := (Mod.refl (fun _ => False) _).drew
 have hbs := md.get hbs (fun h => h)
 have hbc := md.get hbc (fun h => h)
 have C := C.loc md
 have hgd := md.get hg (fun h => h)
 have hgl := lt_of_blk hgd
 have hs := hs.same md
 have hs1 := hs1.same md
 have hzd := md.size
 have hwz : w.heap.size = w.drew.heap.size := rfl
 generalize w.drew = wd at *
 refine kldN_at (cs := [.slice a1 L.length c1, .slice a2 n2 c2]) hbc rfl (by omega) ?_
 refine kG_of rfl ?_
 refine kcall_of (bdNew wd) ?_
 rintro v w35 ⟨bb, rfl, hB, h35⟩
 refine kG_of (kldN_at (cs := [.slice a1 L.length c1, .slice a2 n2 c2]) (h35.get hbc (fun h => h)) rfl (by omega) ⟨rfl, rfl⟩) ?_
 refine kldN_at (cs := [.slice a L.length cp, .slice ra rn rc]) (h35.get hbs (fun h => h)) rfl (by omega) ?_
 refine kG_of rfl ?_
 refine kG_of (kldN_at (cs := [.slice a L.length cp, .slice ra rn rc]) hbs rfl (by omega) ⟨rfl, rfl⟩) ?_
 refine kcall_of (Rollback_spec L (by omega) a cp (.slice ra rn rc) w35 (hs.same h35) rfl) ?_
 rintro v w38 ⟨rfl, h38⟩
 refine kG_of (kldN_at (cs := [.slice a1 L.length c1, .slice a2 n2 c2]) ((h35.trans h38).get hbc (fun h => h)) rfl (by omega) ⟨rfl, rfl⟩) ?_
 refine kbld_of (cs := [.slice a1 L.length c1, .slice a2 n2 c2, .pointer (some ⟨b, 0, none⟩), .pointer (some ⟨bb, 0, none⟩), .pointer (some ⟨g, 0, none⟩), msk (rollF (L.map (·.rb))), .int .i64 0, .int .i64 seed, .pointer none]) rfl ?_
 refine knew_of fun w41 h41 hs41 hb41 => ?_
 have m41 := (h35.trans h38).trans h41
 have hz35 := h35.size
 have hz38 := h38.size
 have hz0 := C.same.size
 refine hQ ⟨w38.heap.size, b, bb, a1, c1, .slice a2 n2 c2, g, gm, gs, .int .i64 0, Rv, L, rollF (L.map fun x : Comp => x.rb), 0, seed⟩ w41 rfl rfl rfl rfl rfl ⟨hb41, fun k hk => hk, hs1.same m41, m41.get hgd (fun h => h), hgo.same (md.trans m41), rfl, hG, rollF_lt _, ⟨o, p, fun k => wd.heap.size ≤ k ∧ k < w35.heap.size, C.loc m41, (hB.mono (U' := fun k => wd.heap.size ≤ k ∧ k < w35.heap.size) fun k hk hu => ⟨hu, hk⟩).same (h38.trans h41), fun k hk => ⟨by omega, C.hi k hk.1, fun hx => ?_⟩, fun k hx => ?_⟩, newS_link L most, rfl, ⟨0, rfl⟩, fun k hk => ⟨hsg k hk, by have := hgo.vblk_lt hk; show k ≠ w38.heap.size; omega, fun f e => (hag k f e).2 hk⟩, by show g ≠ w38.heap.size; omega, fun k f e => ⟨(hag k f e).1, by have := (ha1 k f e).2.1; show k ≠ w38.heap.size; omega⟩⟩
 ·have hx : k = w38.heap.size ∨ (∃ f, a1 = some ⟨k, f, none⟩) ∨ k = g ∨ vblk gs k := hx
  rcases hx with e | ⟨f, e⟩ | e | e
  ·omega
  ·have := (ha1 k f e).2.1; omega
  ·omega
  ·have := hgo.vblk_lt e; omega
 ·have hx : k = w38.heap.size ∨ (∃ f, a1 = some ⟨k, f, none⟩) ∨ k = g ∨ vblk gs k := hx
  rcases hx with e | ⟨f, e⟩ | e | e
  ·exact ⟨by omega, by omega, C.hi k (by omega)⟩
  ·obtain ⟨h1, h2, h3⟩ := ha1 k f e
   exact ⟨h1, by omega, h3⟩
  ·rw [e]; exact ⟨hglo.1, by omega, hglo.2⟩
  ·exact ⟨(hgs k e).1, by have := hgo.vblk_lt e; omega, (hgs k e).2⟩
theorem wNewR {w : World} (hD : DeAt w) {a : Option Addr} {L : List Comp} {cp : Nat} {ra : Option Addr} {R : List ResM} {rc : Nat} (hs : SlIs w a L.length 7 (L.flatMap Comp.cells)) (hG : GoodSc L) (hr : SlIs w ra R.length 2 (R.flatMap ResM.cells)) (hGR : GoodR L R) (h0 : 0 < L.length) {most : Nat} (hm : most ≤ 64) (seed : Int) :
  Meets Tryz.prog 32 #[scV a L.length cp (.slice ra R.length rc), .int .i64 most, .int .i64 seed] w fun v w' => ∃ c : WC, v = .tuple #[.pointer (some ⟨c.bw, 0, none⟩), .nilIface] ∧ c.L = L ∧ c.frame = 0 ∧ c.seed = seed ∧ c.rolled = rollF (L.map (·.rb)) ∧ c.R = R.map (·.value) ∧ WdAt c w c.mine w' (newS L most) 0 ⟨[], 1⟩ := by
 have hl := hG.len
 have hfl := flat_len Comp.cells 7 (fun _ => rfl) L
 have hsc : scV a L.length cp (.slice ra R.length rc) = .agg #[.slice a L.length cp, .slice ra R.length rc] := rfl
 rw [hsc]
 refine f32_ok ?_
 unfold f32
 refine knew_of fun w2 h2 hs2 hb2 => ?_
 have hb2 : blk w2 w.heap.size = some (.cells #[.slice a L.length cp, .slice ra R.length rc] 78) := hb2
 refine kldN_at (cs := [.slice a L.length cp, .slice ra R.length rc]) hb2 rfl (by omega) ?_
 have hsn := sNewR_spec (hD.same h2) (ra := ra) (rc := rc) (cp := cp) (hs.same h2) hG (hr.same h2) hGR hm
 rw [hsc] at hsn
 refine kcall_of hsn ?_
 rintro v w5 ⟨b, rfl, o, p, hP5, hlo5, hhi5, h5⟩
 have hz2 := h2.size
 have C5 : Cur w o w5 b p (newS L most) 0 := ⟨hP5, newS_gs hm, fun k hk => hlo5 k (by omega), hhi5, h2.trans h5⟩
 refine kext_at rfl ?_
 refine kext_at rfl ?_
 rw [keq_nil_nil' ifErr]
 refine kB_at ?_
 refine kIf_F rfl ?_
 unfold f32_0
 have hb5 := h5.get hb2 (fun h => h)
 refine kldN_at (cs := [.slice a L.length cp, .slice ra R.length rc]) hb5 rfl (by omega) ?_
 have hgn := gNew (ra := ra) (rc := rc) (cp := cp) (hs.same C5.same) hG (hr.same C5.same) hGR
 rw [hsc] at hgn
 refine kcall_of hgn ?_
 rintro v w14 ⟨⟨g, gm, gs, rfl, hglo, hg14, hgo14, hgs14⟩, h14⟩
 refine kext_at rfl ?_
 refine kext_at rfl ?_
 rw [keq_nil_nil' ifErr]
 refine kB_at ?_
 refine kIf_F rfl ?_
 unfold f32_1
 have md : Same w14 w14.drew := (Mod.refl (fun _ => False) _).drew
 have Cd := C5.loc (h14.trans md)
 have hbd := (h14.trans md).get hb5 (fun h => h)
 have hgd := md.get hg14 (fun h => h)
 have hgo : w.heap.size ≤ g ∧ o g = none := ⟨by have := C5.same.size; omega, C5.hi g hglo⟩
 have hgsd := hgo14.same md
 have hgsl : ∀ k, vblk gs k → w.heap.size ≤ k ∧ o k = none := fun k hk => ⟨by have := (hgs14 k hk).1; have := C5.same.size; omega, C5.hi k (hgs14 k hk).1⟩
 have hlR := hGR.len
 generalize w14.drew = wd at *
 have hsd := hs.same Cd.same
 have hrd := hr.same Cd.same
 have fin : ∀ (w' : World) (a1 : Option Addr) (c1 : Nat) (a2 : Option Addr) (n2 c2 : Nat) (bc : Nat), Same wd w' → SlIs w' a1 L.length 7 (L.flatMap Comp.cells) → (∀ k f, a1 = some ⟨k, f, none⟩ → wd.heap.size ≤ k) → blk w' bc = some (.cells #[.slice a1 L.length c1, .slice a2 n2 c2] 78) →
   f32_2 (.int .i64 seed) (.pointer (some ⟨w.heap.size, 0, none⟩)) (ptrV b) (.pointer (some ⟨g, 0, none⟩)) (.pointer (some ⟨bc, 0, none⟩)) (fun v w' => ∃ c : WC, v = .tuple #[.pointer (some ⟨c.bw, 0, none⟩), .nilIface] ∧ c.L = L ∧ c.frame = 0 ∧ c.seed = seed ∧ c.rolled = rollF (L.map (·.rb)) ∧ c.R = R.map (·.value) ∧ WdAt c w c.mine w' (newS L most) 0 ⟨[], 1⟩) w' := by
  intro w' a1 c1 a2 n2 c2 bc m hs1 ha1 hbc
  have hz := Cd.same.size
  exact wNew_tail hG (Cd.loc m) (hsd.same m) (m.get hbd (fun h => h)) hs1 (fun k f e => ⟨by have := ha1 k f e; omega, sl_lt hs1 h0 (by omega) k f e, Cd.hi k (ha1 k f e)⟩) (fun k f e => ⟨by have := ha1 k f e; have := lt_of_blk hgd; omega, fun hv => by have := ha1 k f e; have := hgsd.vblk_lt hv; omega⟩) (fun k hk => (hgs14 k hk).2) hbc seed (m.get hgd (fun h => h)) hgo (hgsd.same m) hgsl fun c w'' e1 e2 e3 e4 e5 hW => ⟨c, rfl, e1, e2, e3, e4, e5, hW⟩
 rw [ptrV] at fin ⊢
 refine ⟨?_, ?_⟩
 ·refine kfld_of ?_
  refine kld_of (v := .slice a L.length cp) hbd rfl ?_
  refine kG_of rfl ?_
  refine kcall_of (cloneC_spec hsd (by omega)) ?_
  rintro v w24 ⟨hO24, h24, hf24⟩
  obtain ⟨a1, n1, c1, rfl, hs24, _⟩ := hO24.is
  have hn1 : n1 = L.length := by have h1 := hs24.1; omega
  subst hn1
  have ha1 : ∀ k f, a1 = some ⟨k, f, none⟩ → wd.heap.size ≤ k := fun k f e => hf24 k ⟨f, L.length, c1, by rw [e]⟩
  have hb24 := h24.get hbd (fun h => h)
  refine ⟨?_, ?_⟩
  ·refine kfld_of ?_
   refine kld_of (v := .slice ra R.length rc) hb24 rfl ?_
   refine kG_of rfl ?_
   refine kG_of (kld_of (v := .slice ra R.length rc) hbd rfl ⟨rfl, rfl⟩) ?_
   refine kcall_of (cloneRR_spec (hrd.same h24) (by omega)) ?_
   rintro v w28 ⟨⟨a2, n2, c2, rfl⟩, h28⟩
   refine knew_of fun w30 h30 hs30 hb30 => ?_
   have hb30' := (h28.trans h30).get hb24 (fun h => h)
   refine kG_of (kld_of (v := .slice ra R.length rc) hb30' rfl ⟨rfl, rfl⟩) ?_
   refine kG_of (kld_of (v := .slice a L.length cp) hb30' rfl ⟨rfl, rfl⟩) ?_
   refine kbld_of (cs := [.slice a1 L.length c1, .slice a2 n2 c2]) rfl ?_
   refine kst_of (vs := [.slice a1 L.length c1, .slice a2 n2 c2]) hb30 rfl rfl rfl (by simp) (by simp) fun w32 h32 hs32 hb32 => ?_
   have m32 : Same w28 w32 := h30.trans' (h32.mono fun k _ e => .inr (by omega))
   exact fin w32 a1 c1 _ _ _ _ (h24.trans (h28.trans m32)) (hs24.same (h28.trans m32)) ha1 hb32
  ·refine knew_of fun w49 h49 hs49 hb49 => ?_
   have hb49' := h49.get hb24 (fun h => h)
   refine kG_of (kld_of (v := .slice a L.length cp) hb49' rfl ⟨rfl, rfl⟩) ?_
   refine kfld_of ?_
   refine kld_of (v := .slice ra R.length rc) hb49' rfl ?_
   refine kG_of rfl ?_
   refine kG_of (kld_of (v := .slice ra R.length rc) hb24 rfl ⟨rfl, rfl⟩) ?_
   refine kG_of (kld_of (v := .slice ra R.length rc) hbd rfl ⟨rfl, rfl⟩) ?_
   refine kcall_of (cloneRR_spec (hrd.same (h24.trans h49)) (by omega)) ?_
   rintro v w53 ⟨⟨a2, n2, c2, rfl⟩, h53⟩
   refine kbld_of (cs := [.slice a1 L.length c1, .slice a2 n2 c2]) rfl ?_
   refine kst_of (vs := [.slice a1 L.length c1, .slice a2 n2 c2]) (h53.get hb49 (fun h => h)) rfl rfl rfl (by simp) (by simp) fun w55 h55 hs55 hb55 => ?_
   have m55 : Same w24 w55 := (h49.trans h53).trans' (h55.mono fun k _ e => .inr (by omega))
   exact fin w55 a1 c1 _ _ _ _ (h24.trans m55) (hs24.same m55) ha1 hb55
 ·refine knew_of fun w60 h60 hs60 hb60 => ?_
  have hb60' := h60.get hbd (fun h => h)
  refine kfld_of ?_
  refine kld_of (v := .slice a L.length cp) hb60' rfl ?_
  refine kG_of rfl ?_
  refine kG_of (kld_of (v := .slice a L.length cp) hbd rfl ⟨rfl, rfl⟩) ?_
  refine kcall_of (cloneC_spec (hsd.same h60) (by omega)) ?_
  rintro v w64 ⟨hO64, h64, hf64⟩
  obtain ⟨a1, n1, c1, rfl, hs64, _⟩ := hO64.is
  have hn1 : n1 = L.length := by have h1 := hs64.1; omega
  subst hn1
  have ha1 : ∀ k f, a1 = some ⟨k, f, none⟩ → wd.heap.size ≤ k := fun k f e => by have := hf64 k ⟨f, L.length, c1, by rw [e]⟩; omega
  have hb64 := h64.get hb60' (fun h => h)
  refine kfld_of ?_
  refine kld_of (v := .slice ra R.length rc) hb64 rfl ?_
  refine kG_of rfl ?_
  refine kG_of (kld_of (v := .slice ra R.length rc) hb60' rfl ⟨rfl, rfl⟩) ?_
  refine kG_of (kld_of (v := .slice ra R.length rc) hbd rfl ⟨rfl, rfl⟩) ?_
  refine kcall_of (cloneRR_spec (hrd.same (h60.trans h64)) (by omega)) ?_
  rintro v w68 ⟨⟨a2, n2, c2, rfl⟩, h68⟩
  refine kbld_of (cs := [.slice a1 L.length c1, .slice a2 n2 c2]) rfl ?_
  have hz64 := h64.size
  have hz60 := h60.size
  have hz68 := h68.size
  refine kst_of (vs := [.slice a1 L.length c1, .slice a2 n2 c2]) ((h64.trans h68).get hb60 (fun h => h)) rfl rfl rfl (by simp) (by simp) fun w70 h70 hs70 hb70 => ?_
  have m70 : Same wd w70 := (h60.trans (h64.trans h68)).trans' (h70.mono fun k _ e => .inr (by omega))
  have hs70 : SlIs w70 a1 L.length 7 (L.flatMap Comp.cells) := (hs64.same h68).mod h70 fun k f e hk => by have := hf64 k ⟨f, L.length, c1, by rw [e]⟩; omega
  exact fin w70 a1 c1 _ _ _ _ m70 hs70 ha1 hb70
end
section
attribute [local irreducible] kO kB kStr kInt kN kG kIf kfld kld kldN kst knew kmap kbld kbldS kext kcnv klenStr klen kcap kprt kprtN kbool kint kstr keq kun ksl kix kiv kta kmk kmm ksem ksemU kextf kcallV kcallM kcall kL
theorem Pair.new {c : WC} {w0 : World} {o : OC} {fx : Nat → Prop} {w w' : World} {S : SM} {t : Nat} {B : BdM} {l : List OrdM} {gv dr : Nat} (h0 : 0 < o.L.length) (hW : WdAt c w0 fx w S t B) (m : Same w w') (hO : OAt o (fun k => w.heap.size ≤ k) w' l gv dr) : Pair c w0 o fx w' S t B l gv dr := by
 refine ⟨⟨_, _, hW.ext m, hO.cut h0, fun k hk => ⟨.inr hk, fun hx => ?_, fun e => ?_⟩, fun k hk => .inl hk⟩, h0⟩
 ·have := (hW.A.lt hx).2; omega
 ·have := (hW.A.lt (hW.fm k e)).2; omega
theorem Pair.orderX {c : WC} {w0 : World} {o : OC} {X fx U : Nat → Prop} {w w' : World} {S : SM} {t : Nat} {B : BdM} {l' : List OrdM} {gv' dr' : Nat} (h0 : 0 < o.L.length) (hW : WdAt c w0 fx w S t B) (hU : ∀ k, U k → fx k ∧ ¬ X k ∧ ¬ c.mine k) (hX : ∀ k, X k → fx k)
  (hO : OAt o U w' l' gv' dr') (m : Mod U w w') : Pair c w0 o (fun k => X k ∨ (w.heap.size ≤ k ∧ k < w'.heap.size)) w' S t B l' gv' dr' ∧ Mod (fun k => w0.heap.size ≤ k ∧ ¬ X k) w w' := by
 refine ⟨⟨⟨_, _, hW.other m (fun k hk => ⟨(hU k hk).1, (hU k hk).2.2⟩), hO, fun k hk => ⟨.inl (hU k hk).1, fun hx => ?_, (hU k hk).2.2⟩, fun k hk => ?_⟩, h0⟩, m.mono fun k _ hk => ⟨(hW.A.lt (hU k hk).1).1, (hU k hk).2.1⟩⟩
 ·rcases hx with hx | hx
  ·exact (hU k hk).2.1 hx
  ·have := (hW.A.lt (hU k hk).1).2; omega
 ·rcases hk with hk | hk
  ·exact .inl (hX k hk)
  ·exact .inr hk
theorem pAdd_bad {pr : Nat → Prop} {Sa : Nat → Addr} {c : WC} {w0 : World} (hL : LaidP pr Sa w0) (h1 : pr 1) {o : OC} {X : Nat → Prop} {w : World} {S : SM} {t : Nat} {B : BdM} {l : List OrdM} {gv dr : Nat} (h : Pair c w0 o X w S t B l gv dr) (x : OrdM) (hx : x.ok) (hb : ¬ x.fit o.L.length) :
  Meets Tryz.prog 144 #[.pointer (some ⟨o.bo, 0, none⟩), x.val] w fun v w' => ErrX Sa 1 w.heap.size v w' ∧ Same w w' := by
 have hs := h.same0
 obtain ⟨⟨fx, U, hW, hO, hU, hX⟩, h0⟩ := h
 exact oAdd_bad (hL.same hs) h1 hO x hx hb
theorem pAdd_full {pr : Nat → Prop} {Sa : Nat → Addr} {c : WC} {w0 : World} (hL : LaidP pr Sa w0) (h6 : pr 6) {o : OC} {X : Nat → Prop} {w : World} {S : SM} {t : Nat} {B : BdM} {l : List OrdM} {gv dr : Nat} (h : Pair c w0 o X w S t B l gv dr) (x : OrdM) (hx : x.ok) (hb : x.fit o.L.length) (hf : o.most ≤ gv) (hdr : dr ≤ 1000000) :
  Meets Tryz.prog 144 #[.pointer (some ⟨o.bo, 0, none⟩), x.val] w fun v w' => ErrX Sa 6 w.heap.size v w' ∧ Pair c w0 o (fun k => X k ∨ (w.heap.size ≤ k ∧ k < w'.heap.size)) w' S t B l gv (dr + 1) ∧ Mod (fun k => w0.heap.size ≤ k ∧ ¬ X k) w w' := by
 have hs := h.same0
 obtain ⟨⟨fx, U, hW, hO, hU, hX⟩, h0⟩ := h
 refine (oAdd_full hL h6 hs (fun k hk => (hW.A.lt (hU k hk).1).1) hO x hx hb hf hdr).mono ?_
 rintro v w' ⟨hE, hO', m⟩
 exact ⟨hE, Pair.orderX h0 hW hU hX hO' m⟩
theorem pAdd_ok {c : WC} {w0 : World} {o : OC} {X : Nat → Prop} {w : World} {S : SM} {t : Nat} {B : BdM} {l : List OrdM} {gv dr : Nat} (h : Pair c w0 o X w S t B l gv dr) (x : OrdM) (hx : x.ok) (hb : x.fit o.L.length) (hf : gv < o.most) (hmo : o.most ≤ 1000000) (hln : l.length ≤ 1000000) :
  Meets Tryz.prog 144 #[.pointer (some ⟨o.bo, 0, none⟩), x.val] w fun v w' => v = .nilIface ∧ Pair c w0 o X w' S t B (l ++ [x]) (gv + 1) dr ∧ Mod (fun k => w0.heap.size ≤ k ∧ ¬ X k) w w' := by
 obtain ⟨⟨fx, U, hW, hO, hU, hX⟩, h0⟩ := h
 refine (oAdd_ok hO x hx hb hf hmo hln h0).mono ?_
 rintro v w' ⟨rfl, hO', m⟩
 exact ⟨rfl, Pair.order h0 hW hU hX hO' m⟩
end
section
attribute [local irreducible] kO kB kStr kInt kN kG kIf kfld kld kldN kst knew kmap kbld kbldS kext kcnv klenStr klen kcap kprt kprtN kbool kint kstr keq kun ksl kix kiv kta kmk kmm ksem ksemU kextf kcallV kcallM kcall kL
theorem newS_len (L : List Comp) (most : Nat) : (newS L most).gens.length = most := by simp [newS, newS0, layS]
end
section
attribute [local irreducible] kO kB kStr kInt kN kG kIf kfld kld kldN kst knew kmap kbld kbldS kext kcnv klenStr klen kcap kprt kprtN kbool kint kstr keq kun ksl kix kiv kta kmk kmm ksem ksemU kextf kcallV kcallM kcall kL
structure ActO where
 kind : Int
 x : OrdM
def ActO.cells (a : ActO) : List Value := .int .i64 a.kind :: a.x.cells
end
section
attribute [local irreducible] kO kB kStr kInt kN kG kIf kfld kld kldN kst knew kmap kbld kbldS kext kcnv klenStr klen kcap kprt kprtN kbool kint kstr keq kun ksl kix kiv kta kmk kmm ksem ksemU kextf kcallV kcallM kcall kL
structure Kept2 (L M : List Part) (del : Part → Bool) (i j : Nat) : Prop where
 len : M.length = L.length
 ahead : M.take i = (L.take j).filter fun q => !del q
 rest : ∀ x, j ≤ x → M[x]? = L[x]?
 le : i < j
theorem Kept2.first {L : List Part} {del : Part → Bool} {k : Nat} (hk : k < L.length) (hd : del L[k] = true) (hb : ∀ j (hj : j < L.length), j < k → del L[j] = false) : Kept2 L L del k (k + 1) := by
 refine ⟨rfl, ?_, fun _ _ => rfl, by omega⟩
 rw [List.take_succ_eq_append_getElem hk, List.filter_append, List.filter_eq_self.2, List.filter_cons_of_neg (by simp [hd]), List.filter_nil, List.append_nil]
 intro q hq
 obtain ⟨i, hi, rfl⟩ := List.mem_iff_getElem.1 hq
 rw [List.length_take] at hi
 rw [List.getElem_take, hb i (by omega) (by omega)]
 rfl
theorem Kept2.keep {L M : List Part} {del : Part → Bool} {i j : Nat} (h : Kept2 L M del i j) (hj : j < L.length) (hd : del L[j] = false) : Kept2 L (M.set i L[j]) del (i + 1) (j + 1) := by
 have hle := h.le
 refine ⟨by rw [List.length_set]; exact h.len, ?_, fun x hx => ?_, by omega⟩
 ·have hi : i < (M.set i L[j]).length := by rw [List.length_set, h.len]; omega
  rw [List.take_succ_eq_append_getElem hi, List.getElem_set_self, List.take_set_of_le (Nat.le_refl i), h.ahead, List.take_succ_eq_append_getElem hj, List.filter_append, List.filter_cons_of_pos (by simp [hd]), List.filter_nil]
 ·rw [List.getElem?_set_ne (by omega)]
  exact h.rest x (by omega)
theorem Kept2.drop {L M : List Part} {del : Part → Bool} {i j : Nat} (h : Kept2 L M del i j) (hj : j < L.length) (hd : del L[j] = true) : Kept2 L M del i (j + 1) := by
 have hle := h.le
 refine ⟨h.len, ?_, fun x hx => h.rest x (by omega), by omega⟩
 rw [h.ahead, List.take_succ_eq_append_getElem hj, List.filter_append, List.filter_cons_of_neg (by simp [hd]), List.filter_nil, List.append_nil]
end
section
attribute [local irreducible] kO kB kStr kInt kN kG kIf kfld kld kldN kst knew kmap kbld kbldS kext kcnv klenStr klen kcap kprt kprtN kbool kint kstr keq kun ksl kix kiv kta kmk kmm ksem ksemU kextf kcallV kcallM kcall kL
theorem slNumsT : isSlT Tryz.prog 55 = true := by kernel_rfl
theorem ones_ints : ∀ l : List Int, oneCells (l.map (Value.int .i64)) = true
 | [] => rfl
 | x :: l => by
  show oneCells (.int .i64 x :: l.map (Value.int .i64)) = true
  simp only [oneCells, ones_ints l]; rfl
theorem cloneN_spec {w : World} {a : Option Addr} {n c : Nat} {l : List Int} (hs : SlIs w a n 1 (l.map (Value.int .i64))) (hn : l.length ≤ 1000000) :
  Meets Tryz.prog 50 #[.slice a n c] w fun v w' => Own w' v 1 (l.map (Value.int .i64)) ∧ (∀ k, vblk v k → w.heap.size ≤ k) ∧ Same w w' := by
 have hl : n = l.length := by have h1 := hs.1; rw [List.length_map] at h1; omega
 subst hl
 refine f50_ok ?_
 unfold f50
 rw [keq_sl_nil slNumsT]
 cases a with
 | none =>
  have hL : l.length = 0 := by rcases hs.2 with h | ⟨_, _, _, _, _, h, _⟩; exact h; cases h
  have : l = [] := List.eq_nil_of_length_eq_zero hL
  subst this
  refine kB_at ?_
  refine kIf_T rfl ?_
  exact ⟨Own.nil _ _, (fun k hk => by obtain ⟨_, _, _, h⟩ := hk; cases h), Mod.refl _ _⟩
 | some a =>
  refine kB_at ?_
  refine kIf_F rfl ?_
  unfold f50_0
  refine kbldS_of (cs := []) rfl fun w5 h5 hs5 hb5 => ?_
  refine ksem_append apNums (by omega) (vs := []) (Own.blk hb5 (n := 0) (by simp) (by simp [maxLen])) (Src.ofSlIs (hk := slNums_is.choose_spec) c (hs.same h5) (ones_ints l)) (by simp; omega) (by simp; omega) ?_
  intro v' w' ho hm hf
  refine ⟨by simpa using ho, fun b hb => ?_, Mod.after h5 hm (fun b hb => by rw [vblk_new hb]; exact Nat.le_refl _)⟩
  rcases hf b hb with h | h
  ·rw [vblk_new h]; exact Nat.le_refl _
  ·omega
theorem bdList {U : Nat → Prop} {w : World} {b : Nat} {B : BdM} (h : BdAt U w b B) :
  Meets Tryz.prog 41 #[.pointer (some ⟨b, 0, none⟩)] w fun v w' => Own w' v 1 (B.nums.map (Value.int .i64)) ∧ (∀ k, vblk v k → w.heap.size ≤ k) ∧ Same w w' := by
 obtain ⟨bo, bi, sv, q⟩ := h
 have hn := q.nums
 have hle := q.le
 obtain ⟨a, n, c, rfl, hs, _⟩ := hn.is
 refine f41_ok ?_
 unfold f41
 rw [keq_ptr_nil ptBad]
 refine kB_at ?_
 refine kIf_F rfl ?_
 unfold f41_0
 refine kN_at ?_
 refine kfld_of ?_
 refine kld_of (v := .slice a n c) q.here rfl ?_
 refine kcall_of (cloneN_spec (l := B.nums) hs (by unfold BdM.nums; rw [List.length_map]; omega)) ?_
 rintro v w6 h
 exact h
theorem ptGoo : isPtrT Tryz.prog 103 = true := by kernel_rfl
theorem wParts_ok {c : WC} {w0 : World} {fx : Nat → Prop} {w : World} {S : SM} {t : Nat} {B : BdM} (h : WdAt c w0 fx w S t B) {x : Int} {y : Nat × EK} (hf : B.l.find? (fun z => decide (((z.1 : Nat) : Int) = x)) = some y) :
  Meets Tryz.prog 42 #[.pointer (some ⟨c.bw, 0, none⟩), .int .i64 x] w fun v w' => ∃ s, v = .tuple #[s, .nilIface] ∧ Own w' s 6 ((partsOf S y.2.i.toNat).flatMap Part.cells) ∧ (∀ k, vblk s k → w.heap.size ≤ k) ∧ Same w w' := by
 have hym := List.mem_of_find?_eq_some hf
 obtain ⟨i, hyi, hg⟩ := h.link.live y hym
 rw [hyi, Int.toNat_natCast]
 refine f42_ok ?_
 unfold f42
 refine kcall_of (wEntity_ok h hf) ?_
 rintro v w2 ⟨rfl, h2⟩
 unfold EK.v entV
 rw [hyi]
 refine kext_at rfl ?_
 refine kext_at rfl ?_
 refine knew_of fun w6 h6 hs6 hb6 => ?_
 refine kst_of (vs := [.int .i64 i, .int .i64 y.2.g]) hb6 rfl rfl rfl (by simp) (by simp) fun w7 h7 hs7 hb7 => ?_
 have hb7 : blk w7 w2.heap.size = some (.cells #[.int .i64 i, .int .i64 y.2.g] 160) := hb7
 have m7 : Same w2 w7 := h6.trans' (h7.mono fun k _ e => .inr (by omega))
 rw [keq_nil_nil' ifErr]
 refine kB_at ?_
 refine kIf_F rfl ?_
 unfold f42_0
 have md : Same w7 w7.drew := (Mod.refl (fun _ => False) _).drew
 have mw : Same w w7.drew := (h2.trans m7).trans md
 have hd := h.loc mw
 have hbd := md.get hb7 (fun h => h)
 have hz := mw.size
 generalize w7.drew = wd at *
 refine kN_at ?_
 refine kfld_of ?_
 refine kld_of (v := .pointer (some ⟨c.bs, 0, none⟩)) hd.here rfl ?_
 refine kG_of rfl ?_
 refine kldN_at (cs := [.int .i64 i, .int .i64 y.2.g]) hbd rfl (by omega) ?_
 refine kG_of rfl ?_
 obtain ⟨o, p, U, C, hb, hU, hfx⟩ := hd.A
 have hp := parts_at C.sp C.gs hg
 rw [ptrV, entV] at hp
 refine kcall_of hp ?_
 rintro v w14 ⟨s, rfl, hO, hsk, h14⟩
 refine kext_at rfl ?_
 refine kext_at rfl ?_
 rw [keq_nil_nil' ifErr]
 refine kB_at ?_
 refine kIf_F rfl ?_
 unfold f42_1
 exact ⟨s, rfl, hO, fun k hk => by have := hsk k hk; omega, mw.trans h14⟩
structure BeV where
 id : Nat
 pa : Option Addr
 pc : Nat
 parts : List Part
def BeV.pv (b : BeV) : Value := .slice b.pa b.parts.length b.pc
def BeV.cells (b : BeV) : List Value := [natV b.id, .slice b.pa b.parts.length b.pc]
def BeV.key (b : BeV) : Nat × List Part := (b.id, b.parts)
structure BsAt (lo : Nat) (w : World) (x : Value) (bl : List BeV) : Prop where
 own : Own w x 2 (bl.flatMap BeV.cells)
 parts : ∀ b ∈ bl, Own w b.pv 6 (b.parts.flatMap Part.cells)
 xlo : ∀ k, vblk x k → lo ≤ k
 plo : ∀ b ∈ bl, ∀ k, vblk b.pv k → lo ≤ k
 ne : ∀ b ∈ bl, ∀ k, vblk b.pv k → ¬ vblk x k
 apart : bl.Pairwise fun b b' => ∀ k, vblk b.pv k → ¬ vblk b'.pv k
theorem BsAt.same {lo : Nat} {w w' : World} {x : Value} {bl : List BeV} (h : BsAt lo w x bl) (m : Same w w') : BsAt lo w' x bl :=
 ⟨h.own.same m, fun b hb => (h.parts b hb).same m, h.xlo, h.plo, h.ne, h.apart⟩
theorem apBes : appT Tryz.prog 34 2 32 = true := by kernel_rfl
theorem slBes_is : ∃ e, Tryz.prog.underlying 34 = some (.slice e) := slT_of (by kernel_rfl)
theorem find_self {B : BdM} (h : B.WF) {y : Nat × EK} (hy : y ∈ B.l) : B.l.find? (fun z => decide (((z.1 : Nat) : Int) = ((y.1 : Nat) : Int))) = some y := by
 cases hf : B.l.find? (fun z => decide (((z.1 : Nat) : Int) = ((y.1 : Nat) : Int))) with
 | none =>
  have := List.find?_eq_none.1 hf y hy
  simp at this
 | some z =>
  have h1 := List.mem_of_find?_eq_some hf
  have h2 := List.find?_some hf
  have h2 := of_decide_eq_true h2
  have h2 : z.1 = y.1 := by omega
  rw [nd_num h h1 hy h2]
theorem wView {c : WC} {w0 : World} {fx : Nat → Prop} {w : World} {S : SM} {t : Nat} {B : BdM} (h : WdAt c w0 fx w S t B) (hle : B.l.length ≤ 64) :
  Meets Tryz.prog 9 #[.pointer (some ⟨c.bw, 0, none⟩)] w fun v w' => ∃ bl, BsAt w.heap.size w' v bl ∧ bl.map BeV.key = viewS S B ∧ Same w w' := by
 have hwf := h.wf
 have hnl : B.nums.length = B.l.length := by unfold BdM.nums; rw [List.length_map]
 refine f9_ok ?_
 unfold f9
 rw [keq_ptr_nil ptWor]
 refine kB_at ?_
 refine kIf_F rfl ?_
 unfold f9_0
 refine kN_at ?_
 refine kfld_of ?_
 refine kld_of (v := .pointer (some ⟨c.bb, 0, none⟩)) h.here rfl ?_
 obtain ⟨o, p, U, C, hb, hU, hfx⟩ := id h.A
 refine kcall_of (bdList hb) ?_
 rintro v w6 ⟨hO6, hk6, h6⟩
 obtain ⟨an, nn, cn, rfl, hsn, _⟩ := hO6.is
 have hnn : nn = B.nums.length := by have h1 := hsn.1; rw [List.length_map] at h1; omega
 subst hnn
 have hz6 := h6.size
 refine klen_at ?_
 refine kL2_of B.nums.length (fun j x y wr => y = .int .i64 j ∧ ∃ bl, BsAt w6.heap.size wr x bl ∧ bl.map BeV.key = (viewS S B).take j ∧ Same w6 wr) ⟨lI2_0 ⟨rfl, [], ⟨Own.nil _ _, (fun b hb => by cases hb), (fun k hk => by obtain ⟨_, _, _, e⟩ := hk; cases e), (fun b hb => by cases hb), (fun b hb => by cases hb), List.Pairwise.nil⟩, rfl, Mod.refl _ _⟩, fun x y wr hx => ?_⟩
 obtain ⟨j, hj, ⟨rfl, bl, hB, hbk, hmr⟩, hJ⟩ := lI2_step hx
 unfold f9_1
 refine lss_at ?_
 refine kB_at ?_
 refine kIf_dec (fun hlt => ?_) (fun hge => ?_)
 ·have hlt : j < B.nums.length := by omega
  have hltl : j < B.l.length := by omega
  have hym := List.getElem_mem hltl
  have hnj : B.nums[j] = (((B.l[j]).1 : Nat) : Int) := by
   have hg : B.nums[j]? = some (((B.l[j]).1 : Nat) : Int) := by unfold BdM.nums; rw [List.getElem?_map, List.getElem?_eq_getElem hltl]; rfl
   rw [List.getElem?_eq_getElem hlt] at hg
   exact Option.some.inj hg
  have hvj : (viewS S B).take (j + 1) = (viewS S B).take j ++ [((B.l[j]).1, partsOf S (B.l[j]).2.i.toNat)] := by
   have hv : (viewS S B)[j]? = some ((B.l[j]).1, partsOf S (B.l[j]).2.i.toNat) := by unfold viewS; rw [List.getElem?_map, List.getElem?_eq_getElem hltl]; rfl
   rw [List.take_add_one, hv]; rfl
  have hff := find_self hwf hym
  have hmw := h6.trans hmr
  have hbll : bl.length = j := by
   have := congrArg List.length hbk
   rw [List.length_map, List.length_take, viewS_len] at this
   omega
  unfold f9_2
  refine kixld_of (F := Value.int .i64) (l := B.nums) (hsn.same hmr) hlt rfl ?_
  rw [hnj]
  generalize B.l[j] = y at *
  refine kcall_of (wParts_ok (h.loc hmw) hff) ?_
  rintro v w13 ⟨s, rfl, hOs, hsk, h13⟩
  refine kext_at rfl ?_
  refine kext_at rfl ?_
  rw [keq_nil_nil' ifErr]
  refine kB_at ?_
  refine kIf_F rfl ?_
  unfold f9_4
  obtain ⟨pa, pn, pc, rfl, hps, _⟩ := hOs.is
  have hfl := flat_len Part.cells 6 (fun _ => rfl) (partsOf S y.2.i.toNat)
  have hpn : pn = (partsOf S y.2.i.toNat).length := by have h1 := hps.1; omega
  subst hpn
  refine kbld_of (cs := (⟨y.1, pa, pc, partsOf S y.2.i.toNat⟩ : BeV).cells) rfl ?_
  refine kbldS_of (cs := (⟨y.1, pa, pc, partsOf S y.2.i.toNat⟩ : BeV).cells) rfl fun w21 h21 hs21 hb21 => ?_
  have hfb := flat_len BeV.cells 2 (fun _ => rfl) bl
  have hlc : ((⟨y.1, pa, pc, partsOf S y.2.i.toNat⟩ : BeV).cells.toArray.toList).length = 2 := rfl
  have m21 : Same wr w21 := h13.trans h21
  have hzr := hmr.size
  have hz13 := h13.size
  refine ksem_append apBes (by omega) (hB.own.same m21) (Src.ofSlIs (hk := slBes_is.choose_spec) 1 (SlIs.blk hb21 rfl) rfl) (by omega) (by omega) ?_
  intro x' w23 hO23 m23 hf23
  unfold f9_3
  refine add_at (by omega) (by omega) ?_
  rw [cast_succ]
  have hOs23 : Own w23 (.slice pa (partsOf S y.2.i.toNat).length pc) 6 ((partsOf S y.2.i.toNat).flatMap Part.cells) := (hOs.same h21).mod m23 fun k hk hx => by
   have h1 := hsk k hk
   have h2 := hB.own.vblk_lt hx
   omega
  have hxl : ∀ k, vblk x' k → (vblk x k ∨ w21.heap.size ≤ k) := hf23
  refine hJ _ _ _ hlt ⟨rfl, bl ++ [⟨y.1, pa, pc, partsOf S y.2.i.toNat⟩], ⟨?_, fun b hb => ?_, fun k hk => ?_, fun b hb k hk => ?_, fun b hb k hk hx => ?_, ?_⟩, ?_, Mod.after (hmr.trans m21) m23 fun k hk => hB.xlo k hk⟩
  ·rw [List.flatMap_append]; simpa using hO23
  ·rcases List.mem_append.1 hb with hb | hb
   ·exact ((hB.parts b hb).same m21).mod m23 fun k hk hx => hB.ne b hb k hk hx
   ·have : b = ⟨y.1, pa, pc, partsOf S y.2.i.toNat⟩ := by simpa using hb
    subst this; exact hOs23
  ·rcases hxl k hk with h | h
   ·exact hB.xlo k h
   ·omega
  ·rcases List.mem_append.1 hb with hb | hb
   ·exact hB.plo b hb k hk
   ·have : b = ⟨y.1, pa, pc, partsOf S y.2.i.toNat⟩ := by simpa using hb
    subst this
    have := hsk k hk; omega
  ·rcases List.mem_append.1 hb with hb | hb
   ·rcases hxl k hx with h | h
    ·exact hB.ne b hb k hk h
    ·have := (hB.parts b hb).vblk_lt hk; omega
   ·have : b = ⟨y.1, pa, pc, partsOf S y.2.i.toNat⟩ := by simpa using hb
    subst this
    rcases hxl k hx with h | h
    ·have h1 := hsk k hk; have h2 := hB.own.vblk_lt h; omega
    ·have h1 : k < w13.heap.size := hOs.vblk_lt hk
     omega
  ·rw [List.pairwise_append]
   refine ⟨hB.apart, List.pairwise_singleton _ _, fun b hb b' hb' k hk hk' => ?_⟩
   have : b' = ⟨y.1, pa, pc, partsOf S y.2.i.toNat⟩ := by simpa using hb'
   subst this
   have h1 := (hB.parts b hb).vblk_lt hk
   have h2 := hsk k hk'
   omega
  ·rw [List.map_append, hbk, hvj]; rfl
 ·have : j = B.nums.length := by omega
  subst this
  unfold f9_5
  rw [List.take_of_length_le (by rw [viewS_len]; omega)] at hbk
  exact ⟨bl, ⟨hB.own, hB.parts, fun k hk => by have := hB.xlo k hk; omega, fun b hb k hk => by have := hB.plo b hb k hk; omega, hB.ne, hB.apart⟩, hbk, h6.trans hmr⟩
end
section
attribute [local irreducible] kO kB kStr kInt kN kG kIf kfld kld kldN kst knew kmap kbld kbldS kext kcnv klenStr klen kcap kprt kprtN kbool kint kstr keq kun ksl kix kiv kta kmk kmm ksem ksemU kextf kcallV kcallM kcall kL
theorem kIf_ndec {p : Prop} [Decidable p] {X Y : Prop} (h1 : ¬ p → X) (h2 : p → Y) : kIf (!decide p) X Y :=
 kIf_of (fun h => h1 (by simpa using h)) (fun h => h2 (by simpa using h))
def rowAny (op : Int) : Value := .tuple #[.agg (rowC (rowF op)).toArray, .bool (decide (0 ≤ op ∧ op < 36))]
theorem codeAny {w : World} (hr : RowsAt w) (op : Int) : Meets Tryz.prog 89 #[.int .i64 op] w fun v w' => v = rowAny op ∧ Same w w' := by
 by_cases hin : 0 ≤ op ∧ op < 36
 ·obtain ⟨n, rfl⟩ : ∃ n : Nat, op = (n : Int) := ⟨op.toNat, by omega⟩
  refine (codeOf_spec hr n (by omega)).mono ?_
  rintro v w' ⟨rfl, h⟩
  refine ⟨?_, h⟩
  unfold rowAny
  rw [rowF_nat n (by omega), decide_eq_true hin]
 ·refine f89_ok ?_
  unfold f89
  refine knew_of fun w2 h2 hs2 hb2 => ?_
  unfold rowAny
  rw [rowF_no (by omega), decide_eq_false hin]
  have hz : ∀ Q : PQ, (∀ w', Same w w' → Q (.tuple #[.agg (rowC ([], 0, 0, 0)).toArray, .bool false]) w') → f89_0 (.int .i64 op) (.pointer (some ⟨w.heap.size, 0, none⟩)) (.bool true) Q w2 := fun Q hQ => by
   unfold f89_0
   refine kB_at ?_
   refine kIf_T rfl ?_
   refine kbld_of (cs := rowC ([], 0, 0, 0)) rfl ?_
   refine kst_of (vs := rowC ([], 0, 0, 0)) hb2 rfl rfl rfl (by simp) (by simp [rowC]) fun w7 h7 hs7 hb7 => ?_
   have hb7 : blk w7 w.heap.size = some (.cells (rowC ([], 0, 0, 0)).toArray 178) := hb7
   refine kldN_at (cs := rowC ([], 0, 0, 0)) hb7 rfl (by omega) ?_
   exact hQ _ (Mod.after h2 h7 (fun b hb => by omega))
  refine lss_at ?_
  refine kB_at ?_
  refine kIf_ndec (fun h0 => ?_) (fun h0 => ?_)
  ·refine geq_at ?_
   rw [decide_eq_true (by omega)]
   exact hz _ fun w' h => ⟨rfl, h⟩
  ·exact hz _ fun w' h => ⟨rfl, h⟩
theorem movesA {w : World} (hr : RowsAt w) (op : Int) : Meets Tryz.prog 45 #[.int .i64 op] w fun v w' => v = .tuple #[.int .i64 (rowF op).2.2.1, .int .i64 (rowF op).2.2.2] ∧ Same w w' := by
 refine f45_ok ?_
 unfold f45
 refine kcall_of (codeAny hr op) ?_
 rintro v w2 ⟨rfl, h2⟩
 unfold rowAny
 generalize rowF op = r
 repeat (first | refine kN_at ?_ | refine kB_at ?_ | refine kfld_of ?_ | refine kext_at rfl ?_ | refine kG_of (by first | exact rfl | omega) ?_ | refine klen_at ?_ | refine eql_at ?_ | refine neq_at ?_ | refine lss_at ?_ | refine leq_at ?_ | refine gtr_at ?_ | refine geq_at ?_ | refine add_at (by omega) (by omega) ?_ | refine sub_at (by omega) (by omega) ?_ | refine not_at ?_ | refine kO_at ?_ | refine kprt_at rfl ?_ | refine kprtN_at rfl ?_ | refine kcap_at ?_ | refine klenStr_at ?_ | refine kN_iat ?_ | refine kN_fat ?_ | refine kIf_T (by first | exact rfl | exact decT (by omega) | exact notT (decF (by omega))) ?_ | refine kIf_F (by first | exact rfl | exact decF (by omega) | exact notF (decT (by omega))) ?_)
 refine knew_of fun w6 h6 hs6 hb6 => ?_
 refine kst_of (vs := rowC r) hb6 rfl rfl rfl (by simp) (by simp [rowC]) fun w7 h7 hs7 hb7 => ?_
 have hb7 : blk w7.drew w2.heap.size = some (.cells (rowC r).toArray 178) := hb7
 have m7 : Same w w7.drew := (h2.trans (Mod.after h6 h7 (fun b hb => by omega))).drew
 generalize w7.drew = wd at *
 repeat (first | refine kN_at ?_ | refine kB_at ?_ | refine kfld_of ?_ | refine kext_at rfl ?_ | refine kld_at hb7 rfl ?_ | refine kldN_at hb7 rfl (by omega) ?_ | refine kG_of (by first | exact rfl | omega) ?_ | refine klen_at ?_ | refine eql_at ?_ | refine neq_at ?_ | refine lss_at ?_ | refine leq_at ?_ | refine gtr_at ?_ | refine geq_at ?_ | refine add_at (by omega) (by omega) ?_ | refine sub_at (by omega) (by omega) ?_ | refine not_at ?_ | refine kO_at ?_ | refine kprt_at rfl ?_ | refine kprtN_at rfl ?_ | refine kcap_at ?_ | refine klenStr_at ?_ | refine kN_iat ?_ | refine kN_fat ?_ | refine kIf_T (by first | exact rfl | exact decT (by omega) | exact notT (decF (by omega))) ?_ | refine kIf_F (by first | exact rfl | exact decF (by omega) | exact notF (decT (by omega))) ?_)
 exact ⟨rfl, m7⟩
theorem nameA {w : World} (hr : RowsAt w) (op : Int) : Meets Tryz.prog 88 #[.int .i64 op] w fun v w' => v = .string (tx (rowF op).1) ∧ Same w w' := by
 refine f88_ok ?_
 unfold f88
 refine kcall_of (codeAny hr op) ?_
 rintro v w2 ⟨rfl, h2⟩
 unfold rowAny
 generalize rowF op = r
 repeat (first | refine kN_at ?_ | refine kB_at ?_ | refine kfld_of ?_ | refine kext_at rfl ?_ | refine kG_of (by first | exact rfl | omega) ?_ | refine klen_at ?_ | refine eql_at ?_ | refine neq_at ?_ | refine lss_at ?_ | refine leq_at ?_ | refine gtr_at ?_ | refine geq_at ?_ | refine add_at (by omega) (by omega) ?_ | refine sub_at (by omega) (by omega) ?_ | refine not_at ?_ | refine kO_at ?_ | refine kprt_at rfl ?_ | refine kprtN_at rfl ?_ | refine kcap_at ?_ | refine klenStr_at ?_ | refine kN_iat ?_ | refine kN_fat ?_ | refine kIf_T (by first | exact rfl | exact decT (by omega) | exact notT (decF (by omega))) ?_ | refine kIf_F (by first | exact rfl | exact decF (by omega) | exact notF (decT (by omega))) ?_)
 refine knew_of fun w6 h6 hs6 hb6 => ?_
 refine kst_of (vs := rowC r) hb6 rfl rfl rfl (by simp) (by simp [rowC]) fun w7 h7 hs7 hb7 => ?_
 have hb7 : blk w7 w2.heap.size = some (.cells (rowC r).toArray 178) := hb7
 repeat (first | refine kN_at ?_ | refine kB_at ?_ | refine kfld_of ?_ | refine kext_at rfl ?_ | refine kld_at hb7 rfl ?_ | refine kldN_at hb7 rfl (by omega) ?_ | refine kG_of (by first | exact rfl | omega) ?_ | refine klen_at ?_ | refine eql_at ?_ | refine neq_at ?_ | refine lss_at ?_ | refine leq_at ?_ | refine gtr_at ?_ | refine geq_at ?_ | refine add_at (by omega) (by omega) ?_ | refine sub_at (by omega) (by omega) ?_ | refine not_at ?_ | refine kO_at ?_ | refine kprt_at rfl ?_ | refine kprtN_at rfl ?_ | refine kcap_at ?_ | refine klenStr_at ?_ | refine kN_iat ?_ | refine kN_fat ?_ | refine kIf_T (by first | exact rfl | exact decT (by omega) | exact notT (decF (by omega))) ?_ | refine kIf_F (by first | exact rfl | exact decF (by omega) | exact notF (decT (by omega))) ?_)
 exact ⟨rfl, h2.trans (Mod.after h6 h7 (fun b hb => by omega))⟩
theorem jumpsA {w : World} (hr : RowsAt w) (op : Int) : Meets Tryz.prog 87 #[.int .i64 op] w fun v w' => (∃ j : Bool, v = .tuple #[.bool (decide (op = 20 ∨ op = 21)), .bool j]) ∧ Same w w' := by
 refine f87_ok ?_
 unfold f87
 refine kcall_of (codeAny hr op) ?_
 rintro v w2 ⟨rfl, h2⟩
 unfold rowAny
 generalize rowF op = r
 repeat (first | refine kN_at ?_ | refine kB_at ?_ | refine kfld_of ?_ | refine kext_at rfl ?_ | refine kG_of (by first | exact rfl | omega) ?_ | refine klen_at ?_ | refine eql_at ?_ | refine neq_at ?_ | refine lss_at ?_ | refine leq_at ?_ | refine gtr_at ?_ | refine geq_at ?_ | refine add_at (by omega) (by omega) ?_ | refine sub_at (by omega) (by omega) ?_ | refine not_at ?_ | refine kO_at ?_ | refine kprt_at rfl ?_ | refine kprtN_at rfl ?_ | refine kcap_at ?_ | refine klenStr_at ?_ | refine kN_iat ?_ | refine kN_fat ?_ | refine kIf_T (by first | exact rfl | exact decT (by omega) | exact notT (decF (by omega))) ?_ | refine kIf_F (by first | exact rfl | exact decF (by omega) | exact notF (decT (by omega))) ?_)
 refine knew_of fun w6 h6 hs6 hb6 => ?_
 refine kst_of (vs := rowC r) hb6 rfl rfl rfl (by simp) (by simp [rowC]) fun w7 h7 hs7 hb7 => ?_
 have m7 : Same w w7 := h2.trans (Mod.after h6 h7 (fun b hb => by omega))
 refine eql_at ?_
 refine kB_at ?_
 refine kIf_dec (fun h => ?_) (fun h35 => ?_)
 ·unfold f87_0
  exact ⟨⟨false, by rw [decide_eq_false (by omega)]⟩, m7⟩
 unfold f87_1
 refine eql_at ?_
 refine kB_at ?_
 refine kIf_dec (fun h => ?_) (fun h20 => ?_)
 ·unfold f87_2
  exact ⟨⟨false, by rw [decide_eq_true (by omega)]⟩, m7⟩
 unfold f87_3
 refine eql_at ?_
 refine kB_at ?_
 refine kIf_dec (fun h => ?_) (fun h21 => ?_)
 ·unfold f87_4 f87_5 f87_6
  exact ⟨⟨decide (0 ≤ op ∧ op < 36), by rw [decide_eq_true (show op = 20 ∨ op = 21 by omega)]⟩, m7⟩
 ·unfold f87_5 f87_6
  exact ⟨⟨decide (0 ≤ op ∧ op < 36), by rw [decide_eq_false (show ¬ (op = 20 ∨ op = 21) by omega)]⟩, m7⟩
theorem apNum : appT Tryz.prog 55 1 8 = true := by kernel_rfl
theorem slIns : isSlT Tryz.prog 27 = true := by kernel_rfl
theorem apIns : appT Tryz.prog 27 3 24 = true := by kernel_rfl
theorem ptMill : isPtrT Tryz.prog 50 = true := by kernel_rfl
structure HC where
 wp : Option Addr
 op : Option Addr
 i0 : Int
 i1 : Int
 who : Int
def HC.cells (h : HC) : List Value := [.pointer h.wp, .pointer h.op, .int .i64 h.i0, .int .i64 h.i1, .int .i64 h.who]
def millC (h : HC) (la : Option Addr) (n lc : Nat) (place : Nat) (sv : Value) (fuel : Nat) (over : Bool) : Array Value :=
 #[.pointer h.wp, .pointer h.op, .int .i64 h.i0, .int .i64 h.i1, .int .i64 h.who, .slice la n lc, natV place, sv, natV fuel, .bool over]
structure MlAt {σ : Type} (h : HC) (l : List IN) (bM : Nat) (E X : Nat → Prop) (w : World) (m : MS σ) : Prop where
 ex : ∃ la lc sv, blk w bM = some (.cells (millC h la l.length lc m.place sv m.fuel m.over) 111) ∧ SlIs w la l.length 3 (l.flatMap IN.cells) ∧ Own w sv 1 (m.st.map nV) ∧ (∀ k f, la = some ⟨k, f, none⟩ → (X k ∧ k ≠ bM ∧ ¬ vblk sv k) ∧ k < w.heap.size) ∧ ∀ k, vblk sv k → X k ∧ k ≠ bM ∧ ¬ E k
 own : X bM ∧ ¬ E bM
section
variable {σ : Type} {h : HC} {l : List IN} {bM : Nat} {E X : Nat → Prop} {w w' : World} {m : MS σ}
theorem MlAt.mod {fp : Nat → Prop} (hM : MlAt h l bM E X w m) (mm : Mod fp w w') (hf : ∀ k, X k → ¬ fp k) : MlAt h l bM E X w' m := by
 obtain ⟨⟨la, lc, sv, h1, h2, h3, h4, h5⟩, h6⟩ := hM
 exact ⟨⟨la, lc, sv, mm.get h1 (hf _ h6.1), h2.mod mm (fun k f e => hf k (h4 k f e).1.1), h3.mod mm (fun k hk => hf k (h5 k hk).1), fun k f e => ⟨(h4 k f e).1, Nat.lt_of_lt_of_le (h4 k f e).2 mm.size⟩, h5⟩, h6⟩
theorem MlAt.same (hM : MlAt h l bM E X w m) (mm : Same w w') : MlAt h l bM E X w' m := hM.mod mm fun _ _ h => h
theorem MlAt.weak {X' : Nat → Prop} (hM : MlAt h l bM E X w m) (hs : ∀ k, X k → X' k) : MlAt h l bM E X' w m := by
 obtain ⟨⟨la, lc, sv, h1, h2, h3, h4, h5⟩, h6⟩ := hM
 exact ⟨⟨la, lc, sv, h1, h2, h3, fun k f e => ⟨⟨hs k (h4 k f e).1.1, (h4 k f e).1.2⟩, (h4 k f e).2⟩, fun k hk => ⟨hs k (h5 k hk).1, (h5 k hk).2⟩⟩, hs _ h6.1, h6.2⟩
theorem MlAt.lt (hM : MlAt h l bM E X w m) : bM < w.heap.size := by
 obtain ⟨⟨la, lc, sv, h1, _⟩, _⟩ := hM
 exact lt_of_blk h1
theorem MlAt.hosts (hM : MlAt h l bM E X w m) (s : σ) : MlAt h l bM E X w (m.hosts s) := ⟨hM.ex, hM.own⟩
theorem MlAt.set (hM : MlAt h l bM E X w m) {m' : MS σ} (hst : m'.st = m.st) (mm : Mod (fun k => k = bM) w w')
  (hb : ∀ la lc sv, blk w bM = some (.cells (millC h la l.length lc m.place sv m.fuel m.over) 111) → blk w' bM = some (.cells (millC h la l.length lc m'.place sv m'.fuel m'.over) 111)) : MlAt h l bM E X w' m' := by
 obtain ⟨⟨la, lc, sv, h1, h2, h3, h4, h5⟩, h6⟩ := hM
 exact ⟨⟨la, lc, sv, hb la lc sv h1, h2.mod mm (fun k f e => (h4 k f e).1.2.1), by rw [hst]; exact h3.mod mm (fun k hk => (h5 k hk).2.1), fun k f e => ⟨(h4 k f e).1, Nat.lt_of_lt_of_le (h4 k f e).2 mm.size⟩, h5⟩, h6⟩
theorem mlOver (hM : MlAt h l bM E X w m) : Meets Tryz.prog 13 #[.pointer (some ⟨bM, 0, none⟩)] w fun v w' => v = .bool (overF l.length m) ∧ Same w w' := by
 obtain ⟨⟨la, lc, sv, hb, _⟩, _⟩ := hM
 refine f13_ok ?_
 unfold f13
 have hm : Same w w.drew := (Mod.refl _ w).drew
 have hb : blk w.drew bM = _ := hb
 generalize w.drew = wd at *
 rw [keq_ptr_nil ptMill]
 unfold overF
 refine kG_of rfl ?_
 refine kB_at ?_
 refine kIf_T rfl ?_
 refine kN_at ?_
 refine kfld_of ?_
 refine kld_at hb rfl ?_
 refine kG_of rfl ?_
 refine kB_at ?_
 refine kIf_of (fun ho => ?_) (fun ho => ?_)
 ·have ho : m.over = false := by simpa using ho
  repeat (first | refine kN_at ?_ | refine kB_at ?_ | refine kfld_of ?_ | refine kext_at rfl ?_ | refine kld_at hb rfl ?_ | refine kldN_at hb rfl (by omega) ?_ | refine kG_of (by first | exact rfl | omega) ?_ | refine klen_at ?_ | refine eql_at ?_ | refine neq_at ?_ | refine lss_at ?_ | refine leq_at ?_ | refine gtr_at ?_ | refine geq_at ?_ | refine add_at (by omega) (by omega) ?_ | refine sub_at (by omega) (by omega) ?_ | refine not_at ?_ | refine kO_at ?_ | refine kprt_at rfl ?_ | refine kprtN_at rfl ?_ | refine kcap_at ?_ | refine klenStr_at ?_ | refine kN_iat ?_ | refine kN_fat ?_ | refine kIf_T (by first | exact rfl | exact decT (by omega) | exact notT (decF (by omega))) ?_ | refine kIf_F (by first | exact rfl | exact decF (by omega) | exact notF (decT (by omega))) ?_)
  rw [ho, Bool.false_or]
  exact ⟨rfl, hm⟩
 ·have ho : m.over = true := by simpa using ho
  rw [ho, Bool.true_or]
  exact ⟨rfl, hm⟩
theorem mlFuel (hM : MlAt h l bM E X w m) : Meets Tryz.prog 15 #[.pointer (some ⟨bM, 0, none⟩)] w fun v w' => v = natV m.fuel ∧ w' = w := by
 obtain ⟨⟨la, lc, sv, hb, _⟩, _⟩ := hM
 refine f15_ok ?_
 unfold f15
 rw [keq_ptr_nil ptMill]
 repeat (first | refine kN_at ?_ | refine kB_at ?_ | refine kfld_of ?_ | refine kext_at rfl ?_ | refine kld_at hb rfl ?_ | refine kldN_at hb rfl (by omega) ?_ | refine kG_of (by first | exact rfl | omega) ?_ | refine klen_at ?_ | refine eql_at ?_ | refine neq_at ?_ | refine lss_at ?_ | refine leq_at ?_ | refine gtr_at ?_ | refine geq_at ?_ | refine add_at (by omega) (by omega) ?_ | refine sub_at (by omega) (by omega) ?_ | refine not_at ?_ | refine kO_at ?_ | refine kprt_at rfl ?_ | refine kprtN_at rfl ?_ | refine kcap_at ?_ | refine klenStr_at ?_ | refine kN_iat ?_ | refine kN_fat ?_ | refine kIf_T (by first | exact rfl | exact decT (by omega) | exact notT (decF (by omega))) ?_ | refine kIf_F (by first | exact rfl | exact decF (by omega) | exact notF (decT (by omega))) ?_)
 exact ⟨rfl, rfl⟩
theorem mlStack (hM : MlAt h l bM E X w m) (hn : m.st.length ≤ 1000) : Meets Tryz.prog 16 #[.pointer (some ⟨bM, 0, none⟩)] w fun v w' => Own w' v 1 (m.st.map nV) ∧ (∀ k, vblk v k → w.heap.size ≤ k) ∧ Same w w' := by
 obtain ⟨⟨la, lc, sv, hb, _, ho, _⟩, _⟩ := hM
 obtain ⟨a, n, c, rfl, hs, _⟩ := ho.is
 refine f16_ok ?_
 unfold f16
 rw [keq_ptr_nil ptMill]
 repeat (first | refine kN_at ?_ | refine kB_at ?_ | refine kfld_of ?_ | refine kext_at rfl ?_ | refine kld_at hb rfl ?_ | refine kldN_at hb rfl (by omega) ?_ | refine kG_of (by first | exact rfl | omega) ?_ | refine klen_at ?_ | refine eql_at ?_ | refine neq_at ?_ | refine lss_at ?_ | refine leq_at ?_ | refine gtr_at ?_ | refine geq_at ?_ | refine add_at (by omega) (by omega) ?_ | refine sub_at (by omega) (by omega) ?_ | refine not_at ?_ | refine kO_at ?_ | refine kprt_at rfl ?_ | refine kprtN_at rfl ?_ | refine kcap_at ?_ | refine klenStr_at ?_ | refine kN_iat ?_ | refine kN_fat ?_ | refine kIf_T (by first | exact rfl | exact decT (by omega) | exact notT (decF (by omega))) ?_ | refine kIf_F (by first | exact rfl | exact decF (by omega) | exact notF (decT (by omega))) ?_)
 refine kcall_of (cloneN_spec hs (by omega)) ?_
 rintro v w' ⟨h1, h2, h3⟩
 exact ⟨h1, h2, h3⟩
theorem mlLay (hM : MlAt h l bM E X w m) (hE : ∀ k, E k → k < w.heap.size) (ns : List Int) {a : Option Addr} {n c : Nat} (hs : SlIs w a n 1 (ns.map nV)) (h1 : m.st.length ≤ 1000) (h2 : ns.length ≤ 1000) :
  Meets Tryz.prog 91 #[.pointer (some ⟨bM, 0, none⟩), .slice a n c] w fun v w' => MlAt h l bM E (newB w w' X) w' (m.lays ns) ∧ Mod (fun k => X k ∧ ¬ E k) w w' := by
 have hbM := hM.lt
 obtain ⟨⟨la, lc, sv, hb, hl, ho, hla, hsv⟩, hX⟩ := hM
 refine f91_ok ?_
 unfold f91
 refine kN_at ?_
 refine kfld_of ?_
 refine kld_at hb rfl ?_
 refine ksem_append apNum (by omega) ho (Src.ofSlIs (hk := (slT_of (P := Tryz.prog) (t := 55) (by kernel_rfl)).choose_spec) c hs (ones_ints ns)) (by simp; omega) (by simp; omega) ?_
 intro v' w4 ho4 hm4 hf4
 have hb4 := hm4.get hb (fun e => (hsv _ e).2.1 rfl)
 have hnv : ¬ vblk v' bM := fun e => by
  rcases hf4 _ e with e | e
  ·exact (hsv _ e).2.1 rfl
  ·omega
 refine kN_at ?_
 refine kfld_of ?_
 obtain ⟨a', n', c', e', _⟩ := ho4.is
 subst e'
 refine kst_of (vs := [.slice a' n' c']) hb4 rfl rfl rfl (by simp [millC]) (by simp) fun w6 h6 hs6 hb6 => ?_
 have hm6 : Mod (fun k => k = bM ∨ vblk sv k) w w6 := (hm4.mono fun _ _ h => .inr h).trans (h6.mono fun _ _ h => .inl h)
 have hlt : ∀ k, vblk (.slice a' n' c') k → k < w6.heap.size := fun k hk => Nat.lt_of_lt_of_le (ho4.vblk_lt hk) h6.size
 refine ⟨⟨⟨la, lc, _, hb6, hl.mod hm6 ?_, ?_, ?_, ?_⟩, .inl hX.1, hX.2⟩, hm6.mono fun k _ hk => ?_⟩
 ·intro k f e hbad
  obtain ⟨⟨p1, p2, p3⟩, p4⟩ := hla k f e
  rcases hbad with hbad | hbad
  ·exact p2 hbad
  ·exact p3 hbad
 ·show Own w6 _ 1 ((m.st ++ ns).map nV)
  rw [List.map_append]
  exact ho4.mod h6 fun b hv e => hnv (e ▸ hv)
 ·intro k f e
  obtain ⟨⟨p1, p2, p3⟩, p4⟩ := hla k f e
  refine ⟨⟨.inl p1, p2, fun hv => ?_⟩, Nat.lt_of_lt_of_le p4 hm6.size⟩
  rcases hf4 _ hv with hv | hv
  ·exact p3 hv
  ·omega
 ·intro k hk
  have hk6 := hlt k hk
  refine ⟨?_, fun e => hnv (e ▸ hk), fun he => ?_⟩
  ·rcases hf4 _ hk with hv | hv
   ·exact .inl (hsv _ hv).1
   ·exact .inr ⟨hv, hk6⟩
  ·rcases hf4 _ hk with hv | hv
   ·exact (hsv _ hv).2.2 he
   ·have := hE k he; omega
 ·rcases hk with rfl | hk
  ·exact hX
  ·exact ⟨(hsv k hk).1, (hsv k hk).2.2⟩
end
end
section
attribute [local irreducible] kO kB kStr kInt kN kG kIf kfld kld kldN kst knew kmap kbld kbldS kext kcnv klenStr klen kcap kprt kprtN kbool kint kstr keq kun ksl kix kiv kta kmk kmm ksem ksemU kextf kcallV kcallM kcall kL
section
variable {σ : Type} {h : HC} {l : List IN} {bM : Nat} {E X : Nat → Prop} {w w' : World} {m : MS σ}
theorem mlTake (hM : MlAt h l bM E X w m) (k : Nat) (hk : k ≤ m.st.length) (h1 : m.st.length ≤ 1000) :
  Meets Tryz.prog 47 #[.pointer (some ⟨bM, 0, none⟩), .int .i64 k] w fun v w' => Own w' v 1 ((m.st.drop (m.st.length - k)).map nV) ∧ MlAt h l bM E X w' { m with st := m.st.take (m.st.length - k) } ∧ Mod (fun k => k = bM) w w' := by
 have hbM := hM.lt
 obtain ⟨⟨la, lc, sv, hb, hl, ho, hla, hsv⟩, hX⟩ := hM
 have ho' := ho
 obtain ⟨a, n, c, rfl, hlen, hnc, hc, hbk⟩ := ho'
 have hn : n = m.st.length := by simpa using hlen.symm
 subst hn
 refine f47_ok ?_
 unfold f47
 have hwr : ((m.st.length : Int) - (k : Int)) = ((m.st.length - k : Nat) : Int) := by omega
 repeat (first | refine kN_at ?_ | refine kB_at ?_ | refine kfld_of ?_ | refine kext_at rfl ?_ | refine kld_at hb rfl ?_ | refine kldN_at hb rfl (by omega) ?_ | refine kG_of (by first | exact rfl | omega) ?_ | refine klen_at ?_ | refine eql_at ?_ | refine neq_at ?_ | refine lss_at ?_ | refine leq_at ?_ | refine gtr_at ?_ | refine geq_at ?_ | refine add_at (by omega) (by omega) ?_ | refine sub_at (by omega) (by omega) ?_ | refine not_at ?_ | refine kO_at ?_ | refine kprt_at rfl ?_ | refine kprtN_at rfl ?_ | refine kcap_at ?_ | refine klenStr_at ?_ | refine kN_iat ?_ | refine kN_fat ?_ | refine kIf_T (by first | exact rfl | exact decT (by omega) | exact notT (decF (by omega))) ?_ | refine kIf_F (by first | exact rfl | exact decF (by omega) | exact notF (decT (by omega))) ?_)
 rw [hwr]
 repeat (first | refine kN_at ?_ | refine kB_at ?_ | refine kfld_of ?_ | refine kext_at rfl ?_ | refine kld_at hb rfl ?_ | refine kldN_at hb rfl (by omega) ?_ | refine kG_of (by first | exact rfl | omega) ?_ | refine klen_at ?_ | refine eql_at ?_ | refine neq_at ?_ | refine lss_at ?_ | refine leq_at ?_ | refine gtr_at ?_ | refine geq_at ?_ | refine add_at (by omega) (by omega) ?_ | refine sub_at (by omega) (by omega) ?_ | refine not_at ?_ | refine kO_at ?_ | refine kprt_at rfl ?_ | refine kprtN_at rfl ?_ | refine kcap_at ?_ | refine klenStr_at ?_ | refine kN_iat ?_ | refine kN_fat ?_ | refine kIf_T (by first | exact rfl | exact decT (by omega) | exact notT (decF (by omega))) ?_ | refine kIf_F (by first | exact rfl | exact decF (by omega) | exact notF (decT (by omega))) ?_)
 rw [ksl_slice rfl rfl]
 refine kG_of (by simp only [loV_int, hiV_none]; omega) ?_
 simp only [loV_int, hiV_none, Int.toNat_natCast, Nat.mul_one]
 have hsl : SlIs w (if c = m.st.length - k then a else a.map fun x => x.add (m.st.length - k)) (m.st.length - (m.st.length - k)) 1 ((m.st.drop (m.st.length - k)).map nV) := by
  refine ⟨by simp, ?_⟩
  by_cases h0 : k = 0
  ·left; omega
  ·right
   rcases hbk with ⟨_, hc0⟩ | ⟨b, arr, t, rfl, hbb, hsz, htk⟩
   ·omega
   ·rw [if_neg (by omega)]
    refine ⟨b, m.st.length - k, arr, t, _, by simp, hbb, ?_⟩
    rw [List.map_drop, ← htk, Nat.mul_one, Nat.mul_one, List.drop_take]
 refine kcall_of (cloneN_spec hsl (by simp; omega)) ?_
 rintro v w10 ⟨hov, hf10, h10⟩
 have hb10 := h10.get hb (fun h => h)
 repeat (first | refine kN_at ?_ | refine kB_at ?_ | refine kfld_of ?_ | refine kext_at rfl ?_ | refine kld_at hb10 rfl ?_ | refine kldN_at hb10 rfl (by omega) ?_ | refine kG_of (by first | exact rfl | omega) ?_ | refine klen_at ?_ | refine eql_at ?_ | refine neq_at ?_ | refine lss_at ?_ | refine leq_at ?_ | refine gtr_at ?_ | refine geq_at ?_ | refine add_at (by omega) (by omega) ?_ | refine sub_at (by omega) (by omega) ?_ | refine not_at ?_ | refine kO_at ?_ | refine kprt_at rfl ?_ | refine kprtN_at rfl ?_ | refine kcap_at ?_ | refine klenStr_at ?_ | refine kN_iat ?_ | refine kN_fat ?_ | refine kIf_T (by first | exact rfl | exact decT (by omega) | exact notT (decF (by omega))) ?_ | refine kIf_F (by first | exact rfl | exact decF (by omega) | exact notF (decT (by omega))) ?_)
 rw [ksl_slice rfl rfl]
 refine kG_of (by simp only [loV_none, hiV_int]; omega) ?_
 have e1 : (if c = (loV none).toNat then a else a.map fun x => x.add ((loV none).toNat * 1)) = a := by
  split
  ·rfl
  ·rcases hbk with ⟨rfl, _⟩ | ⟨b, arr, t, rfl, _⟩
   ·rfl
   ·simp
 have e2 : ((hiV m.st.length (some (Value.int .i64 ((m.st.length - k : Nat) : Int)))).toNat - (loV none).toNat) = m.st.length - k := by simp
 have e3 : c - (loV none).toNat = c := by simp
 rw [e1, e2, e3]
 repeat (first | refine kN_at ?_ | refine kB_at ?_ | refine kfld_of ?_ | refine kext_at rfl ?_ | refine kld_at hb10 rfl ?_ | refine kldN_at hb10 rfl (by omega) ?_ | refine kG_of (by first | exact rfl | omega) ?_ | refine klen_at ?_ | refine eql_at ?_ | refine neq_at ?_ | refine lss_at ?_ | refine leq_at ?_ | refine gtr_at ?_ | refine geq_at ?_ | refine add_at (by omega) (by omega) ?_ | refine sub_at (by omega) (by omega) ?_ | refine not_at ?_ | refine kO_at ?_ | refine kprt_at rfl ?_ | refine kprtN_at rfl ?_ | refine kcap_at ?_ | refine klenStr_at ?_ | refine kN_iat ?_ | refine kN_fat ?_ | refine kIf_T (by first | exact rfl | exact decT (by omega) | exact notT (decF (by omega))) ?_ | refine kIf_F (by first | exact rfl | exact decF (by omega) | exact notF (decT (by omega))) ?_)
 refine kst_of (vs := [.slice a (m.st.length - k) c]) hb10 rfl rfl rfl (by simp [millC]) (by simp) fun w15 h15 hs15 hb15 => ?_
 have hm15 : Mod (fun k => k = bM) w w15 := (Mod.of_same h10).trans h15
 have hvb : ∀ b, vblk (.slice a (m.st.length - k) c) b → vblk (.slice a m.st.length c) b := by
  rintro b ⟨o, n', c', e⟩
  cases e
  exact ⟨_, _, _, rfl⟩
 refine ⟨hov.mod h15 (fun b hv e => ?_), ⟨⟨la, lc, _, hb15, hl.mod hm15 (fun k f e => (hla k f e).1.2.1), ?_, fun k f e => ?_, fun k hk => hsv k (hvb k hk)⟩, hX⟩, hm15⟩
 ·have := hf10 b hv; omega
 ·show Own w15 _ 1 ((m.st.take _).map nV)
  rw [List.map_take]
  exact (by have := Own.cutN (sz := 1) ho (k := m.st.length - k) (by omega); rwa [Nat.mul_one] at this : Own w _ 1 _).mod hm15 fun b hv e => (hsv b (hvb b hv)).2.1 e
 ·obtain ⟨⟨p1, p2, p3⟩, p4⟩ := hla k f e
  exact ⟨⟨p1, p2, fun hv => p3 (hvb _ hv)⟩, Nat.lt_of_lt_of_le p4 hm15.size⟩
theorem mlCheck {p : Nat → Prop} {Sa : Nat → Addr} (hL : LaidP p Sa w) (hr : RowsAt w) (k12 : p 12) (k13 : p 13) (k14 : p 14) (k15 : p 15) (hM : MlAt h l bM E X w m) (hl : l.length ≤ 1000000) (hst : m.st.length ≤ 1000) (x : IN) :
  Meets Tryz.prog 44 #[.pointer (some ⟨bM, 0, none⟩), .agg x.cells.toArray] w fun v w' => v = (if chkF l.length m x = 0 then .nilIface else errV Sa (chkF l.length m x)) ∧ Same w w' := by
 obtain ⟨⟨la, lc, sv, hb, _, ho, _⟩, _⟩ := hM
 obtain ⟨a, n, c, rfl, hs, hn⟩ := ho.is
 have hn : n = m.st.length := by simpa using hn rfl
 subst hn
 obtain ⟨r1, r2, r3, r4⟩ := rowF_bnd x.op
 have htx := tx_ne x.op
 refine f44_ok ?_
 unfold f44
 refine knew_of fun w2 h2 hs2 hb2 => ?_
 have hb2 : blk w2 w.heap.size = some (.cells x.cells.toArray 88) := hb2
 refine kfld_of ?_
 refine kld_of (v := .int .i64 x.op) hb2 rfl ?_
 refine kcall_of (movesA (hr.same h2) x.op) ?_
 rintro v w6 ⟨rfl, h6⟩
 have m6 := h2.trans h6
 refine kext_at rfl ?_
 refine kext_at rfl ?_
 refine kfld_of ?_
 refine kld_of (v := .int .i64 x.op) (h6.get hb2 (fun h => h)) rfl ?_
 refine kcall_of (jumpsA (hr.same m6) x.op) ?_
 rintro v w12 ⟨⟨j, rfl⟩, h12⟩
 have m12 := m6.trans h12
 have hx12 := (h6.trans h12).get hb2 (fun h => h)
 have hb12 := m12.get hb (fun h => h)
 generalize hch : chkF l.length m x = ch
 unfold chkF at hch
 refine kext_at rfl ?_
 refine kext_at rfl ?_
 refine kN_at ?_
 refine kfld_of ?_
 refine kld_at hb12 rfl ?_
 refine eql_at ?_
 refine kB_at ?_
 refine kIf_dec (fun hf => ?_) (fun hf => ?_)
 ·rw [if_pos (by omega)] at hch
  subst hch
  exact kld_err (hL.same m12) (k := 15) k15 rfl rfl ⟨rfl, m12⟩
 rw [if_neg (by omega)] at hch
 refine kfld_of ?_
 refine kld_of (v := .int .i64 x.op) hx12 rfl ?_
 refine kcall_of (nameA (hr.same m12) x.op) ?_
 rintro v w22 ⟨rfl, h22⟩
 have m22 := m12.trans h22
 have hx22 := h22.get hx12 (fun h => h)
 have hb22 := m22.get hb (fun h => h)
 refine kstr_eql_at ?_
 refine kB_at ?_
 refine kIf_dec (fun hf => ?_) (fun hno => ?_)
 ·rw [if_pos (htx.1 hf)] at hch
  subst hch
  exact kld_err (hL.same m22) (k := 14) k14 rfl rfl ⟨rfl, m22⟩
 rw [if_neg (fun e => hno (htx.2 e))] at hch
 generalize rowF x.op = r at *
 have tail : ∀ Q : PQ, (∀ w', Same w w' → Q (if ch = 0 then .nilIface else errV Sa ch) w') → (¬ ((m.st.length : Int) < r.2.2.1 ∨ (m.st.length : Int) - r.2.2.1 + r.2.2.2 > 16)) → f44_0 (.pointer (some ⟨bM, 0, none⟩)) (.pointer (some ⟨w.heap.size, 0, none⟩)) (.bool (decide (x.op = 20 ∨ x.op = 21))) (.bool false) Q w22 := by
  intro Q hQ hs2
  rw [if_neg hs2] at hch
  unfold f44_0
  refine kB_at ?_
  refine kIf_F rfl ?_
  refine kB_at ?_
  have hdw : Same w w22.drew := m22.drew
  have e13 : ∀ b : Bool, ∀ wz : World, Same w wz → (b = true → ch = 13) → (b = false → ch = 0) → f44_1 (.bool b) Q wz := by
   intro b wz mz h1 h2
   unfold f44_1
   refine kB_at ?_
   refine kIf_of (fun hb => ?_) (fun hb => ?_)
   ·have := hQ _ mz
    rw [h1 hb] at this
    exact kld_err (hL.same mz) (k := 13) k13 rfl rfl this
   ·unfold f44_2
    have := hQ _ mz
    rw [h2 hb] at this
    exact this
  refine kIf_dec (fun hj => ?_) (fun hj => ?_)
  ·have hxd : blk w22.drew w.heap.size = some (.cells x.cells.toArray 88) := hx22
   have hbd : blk w22.drew bM = _ := hb22
   generalize w22.drew = wd at *
   refine kfld_of ?_
   refine kld_of (v := .int .i64 x.a) hxd rfl ?_
   refine kG_of rfl ?_
   refine lss_at ?_
   refine kB_at ?_
   refine kIf_ndec (fun ha => ?_) (fun ha => ?_)
   ·refine kfld_of ?_
    refine kld_of (v := .int .i64 x.a) hxd rfl ?_
    refine kG_of rfl ?_
    refine kN_at ?_
    refine kfld_of ?_
    refine kld_at hbd rfl ?_
    refine kG_of rfl ?_
    refine klen_at ?_
    refine gtr_at ?_
    refine e13 _ _ hdw (fun hd => ?_) (fun hd => ?_)
    ·have hd := of_decide_eq_true hd
     rw [if_pos ⟨hj, .inr hd⟩] at hch; exact hch.symm
    ·have hd := of_decide_eq_false hd
     rw [if_neg (fun hh => hd (hh.2.resolve_left ha))] at hch; exact hch.symm
   ·refine e13 _ _ hdw (fun _ => ?_) (fun hd => Bool.noConfusion hd)
    rw [if_pos ⟨hj, .inl ha⟩] at hch; exact hch.symm
  ·refine e13 _ _ hdw (fun hd => Bool.noConfusion hd) (fun _ => ?_)
   rw [if_neg (fun hh => hj hh.1)] at hch; exact hch.symm
 have bad : ∀ Q : PQ, (∀ w', Same w w' → Q (if ch = 0 then .nilIface else errV Sa ch) w') → ((m.st.length : Int) < r.2.2.1 ∨ (m.st.length : Int) - r.2.2.1 + r.2.2.2 > 16) → f44_0 (.pointer (some ⟨bM, 0, none⟩)) (.pointer (some ⟨w.heap.size, 0, none⟩)) (.bool (decide (x.op = 20 ∨ x.op = 21))) (.bool true) Q w22 := by
  intro Q hQ hs2
  rw [if_pos hs2] at hch
  subst hch
  unfold f44_0
  refine kB_at ?_
  refine kIf_T rfl ?_
  exact kld_err (hL.same m22) (k := 12) k12 rfl rfl (hQ _ m22)
 refine kN_at ?_
 refine kfld_of ?_
 refine kld_at hb22 rfl ?_
 refine klen_at ?_
 refine lss_at ?_
 refine kB_at ?_
 refine kIf_ndec (fun h1 => ?_) (fun h1 => bad _ (fun w' h => ⟨rfl, h⟩) (.inl h1))
 refine kN_at ?_
 refine kfld_of ?_
 refine kld_at hb22 rfl ?_
 refine klen_at ?_
 refine sub_at (by omega) (by omega) ?_
 refine add_at (by omega) (by omega) ?_
 refine gtr_at ?_
 by_cases h2 : (m.st.length : Int) - r.2.2.1 + r.2.2.2 > 16
 ·rw [decide_eq_true h2]
  exact bad _ (fun w' h => ⟨rfl, h⟩) (.inr h2)
 ·rw [decide_eq_false h2]
  exact tail _ (fun w' h => ⟨rfl, h⟩) (fun hh => hh.elim h1 h2)
end
theorem rem64 (x : Int) : 0 ≤ (IntKind.u64.wrap x).tmod 64 := by
 have : 0 ≤ IntKind.u64.wrap x := by
  show 0 ≤ x % _
  exact Int.emod_nonneg _ (by decide)
 exact Int.tmod_nonneg _ this
theorem calcG_spec (op y x : Int) (w : World) :
  Meets Tryz.prog 95 #[.int .i64 op, .int .i64 y, .int .i64 x] w fun v w' => v = .int .i64 (calcG op y x) ∧ w' = w := by
 refine f95_ok ?_
 unfold f95
 unfold calcG
 refine eql_at ?_
 refine kB_at ?_
 refine kIf_dec (fun h => ?_) (fun h7 => ?_)
 ·rw [if_pos h]
  unfold f95_0
  rw [kun_neg]
  unfold f95_1
  rw [kint_add]; exact ⟨rfl, rfl⟩
 rw [if_neg h7]
 refine eql_at ?_
 refine kB_at ?_
 refine kIf_dec (fun h => ?_) (fun h6 => ?_)
 ·rw [if_pos h]
  unfold f95_1
  rw [kint_add]; exact ⟨rfl, rfl⟩
 rw [if_neg h6]
 refine eql_at ?_
 refine kB_at ?_
 refine kIf_dec (fun h => ?_) (fun h8 => ?_)
 ·rw [if_pos h]
  unfold f95_4
  rw [kint_mul]; exact ⟨rfl, rfl⟩
 rw [if_neg h8]
 refine eql_at ?_
 refine kB_at ?_
 refine kIf_dec (fun h => ?_) (fun h9 => ?_)
 ·rw [if_pos h]
  unfold f95_6
  refine kcall_of (quotient_spec y x w) ?_
  rintro v w' h
  exact h
 rw [if_neg h9]
 refine eql_at ?_
 refine kB_at ?_
 refine kIf_dec (fun h => ?_) (fun h10 => ?_)
 ·rw [if_pos h]
  unfold f95_8
  unfold modF
  refine eql_at ?_
  refine kB_at ?_
  refine kIf_dec (fun h0 => ?_) (fun h0 => ?_)
  ·rw [if_pos h0]; exact ⟨rfl, rfl⟩
  ·unfold f95_9
   rw [if_neg h0]
   refine kcall_of (quotient_spec y x w) ?_
   rintro v w' ⟨rfl, rfl⟩
   rw [kint_mul, kint_sub]; exact ⟨rfl, rfl⟩
 rw [if_neg h10]
 refine eql_at ?_
 refine kB_at ?_
 refine kIf_dec (fun h => ?_) (fun h12 => ?_)
 ·rw [if_pos h]
  unfold f95_11
  rw [kint_and]; exact ⟨rfl, rfl⟩
 rw [if_neg h12]
 refine eql_at ?_
 refine kB_at ?_
 refine kIf_dec (fun h => ?_) (fun h13 => ?_)
 ·rw [if_pos h]
  unfold f95_13
  rw [kint_or]; exact ⟨rfl, rfl⟩
 rw [if_neg h13]
 refine eql_at ?_
 refine kB_at ?_
 refine kIf_dec (fun h => ?_) (fun h14 => ?_)
 ·rw [if_pos h]
  unfold f95_15
  rw [kint_xor]; exact ⟨rfl, rfl⟩
 rw [if_neg h14]
 refine eql_at ?_
 refine kB_at ?_
 refine kIf_dec (fun h => ?_) (fun h15 => ?_)
 ·rw [if_pos h]
  unfold f95_17
  rw [kcnv_int, kint_rem]
  refine kG_of (by decide) ?_
  rw [kint_shl]
  exact kG_of (rem64 x) ⟨rfl, rfl⟩
 rw [if_neg h15]
 refine eql_at ?_
 refine kB_at ?_
 refine kIf_dec (fun h => ?_) (fun h16 => ?_)
 ·rw [if_pos h]
  unfold f95_19
  rw [kcnv_int, kint_rem]
  refine kG_of (by decide) ?_
  rw [kint_shr]
  exact kG_of (rem64 x) ⟨rfl, rfl⟩
 rw [if_neg h16]
 refine eql_at ?_
 refine kB_at ?_
 refine kIf_dec (fun h => ?_) (fun h17 => ?_)
 ·rw [if_pos h]
  unfold f95_21
  rw [kint_eql]
  refine kcall_of (flag_spec _ w) ?_
  rintro v w' h
  exact h
 rw [if_neg h17]
 unfold f95_22
 rw [kint_lss]
 refine kcall_of (flag_spec _ w) ?_
 rintro v w' h
 exact h
end
section
attribute [local irreducible] kO kB kStr kInt kN kG kIf kfld kld kldN kst knew kmap kbld kbldS kext kcnv klenStr klen kcap kprt kprtN kbool kint kstr keq kun ksl kix kiv kta kmk kmm ksem ksemU kextf kcallV kcallM kcall kL
def HAt (h : HC) (b : Nat) (w : World) : Prop := ∃ la n lc place sv fuel over, blk w b = some (.cells (millC h la n lc place sv fuel over) 111)
structure HostI {σ : Type} (H : HostM σ) (h : HC) (w0 : World) (ok : IN → Prop) (cost : σ → Nat) (I : (Nat → Prop) → World → σ → Prop) : Prop where
 base : ∀ {X w s}, I X w s → Same w0 w
 lt : ∀ {X w s}, I X w s → ∀ k, X k → w0.heap.size ≤ k ∧ k < w.heap.size
 loc : ∀ {X w w' s}, I X w s → Same w w' → I X w' s
 less : ∀ {X X' w s}, I X w s → (∀ k, X' k → X k) → I X' w s
 grow : ∀ {X fp w w' s}, I X w s → Mod fp w w' → (∀ k, fp k → X k) → I (newB w w' X) w' s
 rdo : ∀ s x, H.rd s x ≠ none → reads x.op
 rdi : ∀ s x, ok x → reads x.op → H.rd s x ≠ none
 read : ∀ {X w s b x}, I X w s → HAt h b w → ok x → Meets Tryz.prog 90 #[.pointer (some ⟨b, 0, none⟩), .agg x.cells.toArray] w fun v w' => v = .tuple #[nV ((H.rd s x).getD 0), .bool (H.rd s x).isSome] ∧ Same w w'
 write : ∀ {X w s b x top}, I X w s → HAt h b w → X b → ok x → (x.op = 23 ∨ x.op = 27 ∨ x.op = 31 ∨ x.op = 32 ∨ x.op = 33 ∨ x.op = 34) → cost s ≤ 5000 → I64 top →
  Meets Tryz.prog 94 #[.pointer (some ⟨b, 0, none⟩), .agg x.cells.toArray, nV top] w fun v w' => I X w' (H.wr s x top) ∧ Mod (fun k => w0.heap.size ≤ k ∧ ¬ X k) w w'
 draw : ∀ {X w s b x n}, I X w s → HAt h b w → X b → ok x → x.op = 28 → cost s ≤ 5000 → I64 n →
  Meets Tryz.prog 93 #[.pointer (some ⟨b, 0, none⟩), nV n] w fun v w' => v = nV (H.dr s n).2 ∧ I X w' (H.dr s n).1 ∧ Mod (fun k => w0.heap.size ≤ k ∧ ¬ X k) w w'
 rd64 : ∀ {X w s x v}, I X w s → ok x → H.rd s x = some v → I64 v
 dr64 : ∀ s n, I64 (H.dr s n).2
 costw : ∀ s x n, cost (H.wr s x n) ≤ cost s + 1
 costd : ∀ s n, cost (H.dr s n).1 ≤ cost s + 1
structure MI {σ : Type} (h : HC) (l : List IN) (bM : Nat) (E : Nat → Prop) (I : (Nat → Prop) → World → σ → Prop) (X : Nat → Prop) (w : World) (m : MS σ) : Prop where
 ml : MlAt h l bM E X w m
 hi : I X w m.h
 e : ∀ k, E k → X k
section
variable {σ : Type} {H : HostM σ} {h : HC} {w0 : World} {ok : IN → Prop} {cost : σ → Nat} {I : (Nat → Prop) → World → σ → Prop} {l : List IN} {bM : Nat} {E X : Nat → Prop} {w w' : World} {m : MS σ}
theorem MI.same (hh : HostI H h w0 ok cost I) (hM : MI h l bM E I X w m) (mm : Same w w') : MI h l bM E I X w' m := ⟨hM.ml.same mm, hh.loc hM.hi mm, hM.e⟩
theorem MI.hat (hM : MI h l bM E I X w m) : HAt h bM w := by
 obtain ⟨la, lc, sv, hb, _⟩ := hM.ml.ex
 exact ⟨_, _, _, _, _, _, _, hb⟩
theorem MI.put (hh : HostI H h w0 ok cost I) (hM : MI h l bM E I X w m) {m' : MS σ} (hs : m'.h = m.h) {fp : Nat → Prop} (mm : Mod fp w w') (hf : ∀ k, fp k → X k ∧ ¬ E k) (hm : MlAt h l bM E (newB w w' X) w' m') :
  (∃ X', MI h l bM E I X' w' m') ∧ Mod (fun k => w0.heap.size ≤ k ∧ ¬ E k) w w' :=
 ⟨⟨_, hm, by rw [hs]; exact hh.grow hM.hi mm fun k hk => (hf k hk).1, fun k hk => .inl (hM.e k hk)⟩, mm.mono fun k _ hk => ⟨(hh.lt hM.hi k (hf k hk).1).1, (hf k hk).2⟩⟩
theorem MI.act (hM : MI h l bM E I X w m) {s : σ} (hi : I X w' s) (mm : Mod (fun k => w0.heap.size ≤ k ∧ ¬ X k) w w') :
  MI h l bM E I X w' (m.hosts s) ∧ Mod (fun k => w0.heap.size ≤ k ∧ ¬ E k) w w' :=
 ⟨⟨(hM.ml.mod mm fun k hk hn => hn.2 hk).hosts s, hi, hM.e⟩, mm.mono fun k _ hk => ⟨hk.1, fun he => hk.2 (hM.e k he)⟩⟩
theorem mlLayI (hh : HostI H h w0 ok cost I) (hM : MI h l bM E I X w m) (ns : List Int) {a : Option Addr} {n c : Nat} (hs : SlIs w a n 1 (ns.map nV)) (h1 : m.st.length ≤ 16) (h2 : ns.length ≤ 3) :
  Meets Tryz.prog 91 #[.pointer (some ⟨bM, 0, none⟩), .slice a n c] w fun v w' => (∃ X', MI h l bM E I X' w' (m.lays ns)) ∧ Mod (fun k => w0.heap.size ≤ k ∧ ¬ E k) w w' :=
 (mlLay hM.ml (fun k hk => (hh.lt hM.hi k (hM.e k hk)).2) ns hs (by omega) (by omega)).mono fun v w' ⟨a1, a2⟩ => hM.put hh rfl a2 (fun k hk => hk) a1
theorem nthF_eq {ks : List Int} {i : Nat} (hi : i < ks.length) : ks[i] = nthF ks i := by
 unfold nthF
 rw [List.getD_eq_getElem?_getD, List.getElem?_eq_getElem hi]; rfl
def numL (l : List Int) : Prop := ∀ v ∈ l, I64 v
theorem I64_0 : I64 0 := by unfold I64; omega
theorem nthF64 {l : List Int} (h : numL l) (i : Nat) : I64 (nthF l i) := by
 by_cases hi : i < l.length
 ·rw [← nthF_eq hi]; exact h _ (List.getElem_mem hi)
 ·unfold nthF
  rw [List.getD_eq_getElem?_getD, List.getElem?_eq_none (by omega)]; exact I64_0
theorem kixn {w w' : World} {a : Option Addr} {ks : List Int} {c : Nat} {e : TypeId} {i : Nat} {K : Value → Prop} (hs : SlIs w a ks.length 1 (ks.map nV)) (hi : i < ks.length) (hw : w'.heap = w.heap) (hK : K (nV (nthF ks i))) :
  kix (some (.slice e)) (some 1) (.slice a ks.length c) (.int .i64 (i : Int)) fun v1 => kld v1 w' K :=
 kixld_of (F := nV) hs hi hw (by rw [nthF_eq hi]; exact hK)
def DoP (h : HC) (w0 : World) (l : List IN) (bM : Nat) (E : Nat → Prop) (I : (Nat → Prop) → World → σ → Prop) (w : World) (z : MS σ) (w' : World) : Prop :=
 (∃ X', MI h l bM E I X' w' z) ∧ Mod (fun k => w0.heap.size ≤ k ∧ ¬ E k) w w'
theorem DoP.from {w1 : World} {z : MS σ} (h1 : Mod (fun k => w0.heap.size ≤ k ∧ ¬ E k) w w1) (hd : DoP h w0 l bM E I w1 z w') : DoP h w0 l bM E I w z w' := ⟨hd.1, h1.trans hd.2⟩
theorem DoP.same {w1 : World} {z : MS σ} (h1 : Same w w1) (hd : DoP h w0 l bM E I w1 z w') : DoP h w0 l bM E I w z w' := ⟨hd.1, (Mod.of_same h1).trans hd.2⟩
theorem mlDo (hh : HostI H h w0 ok cost I) (hM : MI h l bM E I X w m) (x : IN) (hok : ok x) (hx : 0 ≤ x.op ∧ x.op < 36) (hj : (x.op = 20 ∨ x.op = 21) → 0 ≤ x.a) (hc : cost m.h ≤ 5000) (hst : m.st.length ≤ 16)
  {a : Option Addr} {c : Nat} {ks : List Int} (hs : SlIs w a ks.length 1 (ks.map nV)) (has : ks.length = takesF x.op) (hks : numL ks) :
  Meets Tryz.prog 46 #[.pointer (some ⟨bM, 0, none⟩), .agg x.cells.toArray, .slice a ks.length c] w fun v w' => DoP h w0 l bM E I w (doF H m x ks) w' := by
 refine f46_ok ?_
 unfold f46
 refine knew_of fun w2 h2 hs2 hb2 => ?_
 have hb2 : blk w2.drew w.heap.size = some (.cells x.cells.toArray 88) := hb2
 have m2 : Same w w2.drew := h2.drew
 generalize w2.drew = wd at *
 refine kN_at ?_
 refine kfld_of ?_
 refine kldN_at hb2 rfl (by omega) ?_
 refine kG_of rfl ?_
 have hM2 := hM.same hh m2
 refine kcall_of (hh.read hM2.hi hM2.hat hok) ?_
 rintro v w6 ⟨rfl, h6⟩
 have m6 := m2.trans h6
 have hb6 := h6.get hb2 (fun h => h)
 have hM6 := hM.same hh m6
 have hs6 := hs.same m6
 clear hM2
 cases hr : H.rd m.h x with
 | some v =>
  have e : doF H m x ks = m.lays [v] := by unfold doF; rw [hr]
  rw [e]
  refine kext_at rfl ?_
  refine kext_at rfl ?_
  refine kB_at ?_
  refine kIf_T rfl ?_
  refine kbldS_of (cs := [nV v]) rfl fun w10 h10 hs10 hb10 => ?_
  refine kcall_of (mlLayI hh (hM6.same hh h10) [v] (SlIs.blk hb10 rfl) hst (by simp)) ?_
  rintro v' w12 h12
  exact DoP.same (m6.trans h10) h12
 | none =>
  have e : doF H m x ks = doN H m x ks := by unfold doF; rw [hr]
  rw [e]
  refine kext_at rfl ?_
  refine kext_at rfl ?_
  refine kB_at ?_
  refine kIf_F rfl ?_
  unfold f46_0
  unfold doN
  have m6d : Same w w6.drew := m6.drew
  have hM6d := hM.same hh m6d
  have hb6d : blk w6.drew w.heap.size = some (.cells x.cells.toArray 88) := hb6
  have hs6d := hs.same m6d
  refine kfld_of ?_
  refine kld_of (v := .int .i64 x.op) hb6 rfl ?_
  refine eql_at ?_
  refine kB_at ?_
  refine kIf_dec (fun ho => ?_) (fun h2 => ?_)
  ·have ha : ks.length = 1 := by rw [has, ho]; rfl
   rw [if_pos ho]
   unfold f46_1
   refine kixn hs6 (i := 0) (by omega) rfl ?_
   refine kG_of rfl ?_
   refine kixn hs6 (i := 0) (by omega) rfl ?_
   refine kG_of rfl ?_
   refine kbldS_of (cs := [nV (nthF ks 0), nV (nthF ks 0)]) rfl fun w10 h10 hs10 hb10 => ?_
   refine kcall_of (mlLayI hh (hM6d.same hh h10) [nthF ks 0, nthF ks 0] (SlIs.blk hb10 rfl) hst (by simp)) ?_
   rintro v' w12 h12
   exact DoP.same (m6d.trans h10) h12
  rw [if_neg h2]
  unfold f46_2
  refine eql_at ?_
  refine kB_at ?_
  refine kIf_dec (fun ho => ?_) (fun h4 => ?_)
  ·have ha : ks.length = 2 := by rw [has, ho]; rfl
   rw [if_pos ho]
   unfold f46_3
   refine kixn hs6 (i := 1) (by omega) rfl ?_
   refine kG_of rfl ?_
   refine kixn hs6 (i := 0) (by omega) rfl ?_
   refine kG_of rfl ?_
   refine kbldS_of (cs := [nV (nthF ks 1), nV (nthF ks 0)]) rfl fun w10 h10 hs10 hb10 => ?_
   refine kcall_of (mlLayI hh (hM6d.same hh h10) [nthF ks 1, nthF ks 0] (SlIs.blk hb10 rfl) hst (by simp)) ?_
   rintro v' w12 h12
   exact DoP.same (m6d.trans h10) h12
  rw [if_neg h4]
  unfold f46_4
  refine eql_at ?_
  refine kB_at ?_
  refine kIf_dec (fun ho => ?_) (fun h5 => ?_)
  ·have ha : ks.length = 2 := by rw [has, ho]; rfl
   rw [if_pos ho]
   unfold f46_5
   refine kixn hs6 (i := 0) (by omega) rfl ?_
   refine kG_of rfl ?_
   refine kixn hs6 (i := 1) (by omega) rfl ?_
   refine kG_of rfl ?_
   refine kixn hs6 (i := 0) (by omega) rfl ?_
   refine kG_of rfl ?_
   refine kbldS_of (cs := [nV (nthF ks 0), nV (nthF ks 1), nV (nthF ks 0)]) rfl fun w10 h10 hs10 hb10 => ?_
   refine kcall_of (mlLayI hh (hM6d.same hh h10) [nthF ks 0, nthF ks 1, nthF ks 0] (SlIs.blk hb10 rfl) hst (by simp)) ?_
   rintro v' w12 h12
   exact DoP.same (m6d.trans h10) h12
  rw [if_neg h5]
  unfold f46_6
  refine eql_at ?_
  refine kB_at ?_
  refine kIf_dec (fun ho => ?_) (fun h11 => ?_)
  ·have ha : ks.length = 1 := by rw [has, ho]; rfl
   rw [if_pos ho]
   unfold f46_7
   refine kixn hs6 (i := 0) (by omega) rfl ?_
   unfold nV
   rw [kun_neg]
   refine kbldS_of (cs := [nV (IntKind.i64.wrap (0 - nthF ks 0))]) rfl fun w10 h10 hs10 hb10 => ?_
   refine kcall_of (mlLayI hh (hM6.same hh h10) [IntKind.i64.wrap (0 - nthF ks 0)] (SlIs.blk hb10 rfl) hst (by simp)) ?_
   rintro v' w12 h12
   exact DoP.same (m6.trans h10) h12
  rw [if_neg h11]
  unfold f46_8
  refine eql_at ?_
  refine kB_at ?_
  refine kIf_dec (fun ho => ?_) (fun h19 => ?_)
  ·have ha : ks.length = 1 := by rw [has, ho]; rfl
   rw [if_pos ho]
   unfold f46_9
   refine kixn hs6 (i := 0) (by omega) rfl ?_
   refine eql_at ?_
   refine kcall_of (flag_spec _ w6) ?_
   rintro v' w8 ⟨rfl, rfl⟩
   refine kbldS_of (cs := [nV (flagF (decide (nthF ks 0 = 0)))]) rfl fun w10 h10 hs10 hb10 => ?_
   refine kcall_of (mlLayI hh (hM6.same hh h10) [flagF (decide (nthF ks 0 = 0))] (SlIs.blk hb10 rfl) hst (by simp)) ?_
   rintro v' w12 h12
   exact DoP.same (m6.trans h10) h12
  rw [if_neg h19]
  unfold f46_10
  refine eql_at ?_
  refine kB_at ?_
  refine kIf_dec (fun ho => ?_) (fun h28 => ?_)
  ·have ha : ks.length = 1 := by rw [has, ho]; rfl
   rw [if_pos ho]
   unfold f46_11
   refine kixn hs6 (i := 0) (by omega) rfl ?_
   refine kcall_of (hh.draw (n := nthF ks 0) hM6.hi hM6.hat hM6.ml.own.1 hok ho hc (nthF64 hks 0)) ?_
   rintro v' w8 ⟨rfl, hi8, mm8⟩
   obtain ⟨hM8, mm8⟩ := hM6.act hi8 mm8
   refine kbldS_of (cs := [nV (H.dr m.h (nthF ks 0)).2]) rfl fun w10 h10 hs10 hb10 => ?_
   refine kcall_of (mlLayI hh (hM8.same hh h10) [(H.dr m.h (nthF ks 0)).2] (SlIs.blk hb10 rfl) hst (by simp)) ?_
   rintro v' w12 h12
   exact DoP.same m6 (DoP.from mm8 (DoP.same h10 h12))
  rw [if_neg h28]
  have none6 : DoP h w0 l bM E I w m w6 := DoP.same m6 ⟨⟨_, hM6⟩, Mod.refl _ _⟩
  unfold f46_12
  refine eql_at ?_
  refine kB_at ?_
  refine kIf_dec (fun ho => ?_) (fun h0 => ?_)
  ·rw [if_pos ho]
   unfold f46_13
   refine kB_at ?_
   refine kIf_T (decT ho) ?_
   exact none6
  rw [if_neg h0]
  refine eql_at ?_
  unfold f46_13
  refine kB_at ?_
  refine kIf_dec (fun ho => ?_) (fun h3 => ?_)
  ·rw [if_pos ho]
   exact none6
  rw [if_neg h3]
  unfold f46_14
  refine eql_at ?_
  refine kB_at ?_
  refine kIf_dec (fun ho => ?_) (fun h35 => ?_)
  ·rw [if_pos ho]
   unfold f46_15
   obtain ⟨la, lc, sv, hb, _⟩ := hM6.ml.ex
   refine kN_at ?_
   refine kfld_of ?_
   refine kst1_of hb rfl rfl (by simp [millC]) fun w7 h7 hs7 hb7 => ?_
   refine DoP.same m6 (hM6.put hh rfl h7 (fun k hk => hk ▸ hM6.ml.own) ((hM6.ml.set (m' := m.ends) rfl h7 fun la' lc' sv' e => ?_).weak fun k hk => .inl hk))
   rw [hb] at e
   cases e
   exact hb7
  rw [if_neg h35]
  have jmp : (x.op = 20 ∨ x.op = 21) → ∀ Q : PQ, (∀ w', DoP h w0 l bM E I w (m.goes x.a.toNat) w' → Q (.tuple #[]) w') → f46_18 (.pointer (some ⟨bM, 0, none⟩)) (.pointer (some ⟨w.heap.size, 0, none⟩)) Q w6 := by
   intro ho Q hQ
   unfold f46_18
   have ha := hj ho
   refine kfld_of ?_
   refine kld_of (v := .int .i64 x.a) hb6 rfl ?_
   obtain ⟨la, lc, sv, hb, _⟩ := hM6.ml.ex
   refine kN_at ?_
   refine kfld_of ?_
   refine kst1_of hb rfl rfl (by simp [millC]) fun w7 h7 hs7 hb7 => ?_
   refine hQ _ (DoP.same m6 (hM6.put hh rfl h7 (fun k hk => hk ▸ hM6.ml.own) ((hM6.ml.set (m' := m.goes x.a.toNat) rfl h7 fun la' lc' sv' e => ?_).weak fun k hk => .inl hk)))
   rw [hb] at e
   cases e
   rw [hb7]
   have : (.int .i64 x.a : Value) = natV x.a.toNat := by unfold natV; rw [Int.toNat_of_nonneg ha]
   rw [this]
   rfl
  unfold f46_16
  refine eql_at ?_
  refine kB_at ?_
  refine kIf_dec (fun ho => ?_) (fun h21 => ?_)
  ·have ha : ks.length = 1 := by rw [has, ho]; rfl
   rw [if_pos ho]
   unfold f46_17
   refine kixn hs6 (i := 0) (by omega) rfl ?_
   refine neq_at ?_
   refine kB_at ?_
   refine kIf_dec (fun hn => ?_) (fun hn => ?_)
   ·rw [if_pos hn]
    exact none6
   ·rw [if_neg hn]
    exact jmp (.inr ho) _ fun w' h => h
  rw [if_neg h21]
  unfold f46_19
  refine eql_at ?_
  refine kB_at ?_
  refine kIf_dec (fun ho => ?_) (fun h20 => ?_)
  ·rw [if_pos ho]
   exact jmp (.inl ho) _ fun w' h => h
  rw [if_neg h20]
  have wr : (x.op = 23 ∨ x.op = 27 ∨ x.op = 31 ∨ x.op = 32 ∨ x.op = 33 ∨ x.op = 34) → ∀ (top : Int), I64 top → ∀ (Q : PQ), (∀ w', DoP h w0 l bM E I w (m.hosts (H.wr m.h x top)) w' → Q (.tuple #[]) w') → kcall Tryz.prog 94 #[.pointer (some ⟨bM, 0, none⟩), .agg x.cells.toArray, nV top] w6.drew fun v w9 => Q (.tuple #[]) w9 := by
   intro ho top h64 Q hQ
   refine kcall_of (hh.write (top := top) hM6d.hi hM6d.hat hM6d.ml.own.1 hok ho hc h64) ?_
   rintro v' w8 ⟨hi8, mm8⟩
   obtain ⟨hM8, mm8⟩ := hM6d.act hi8 mm8
   exact hQ _ (DoP.same m6d (DoP.from mm8 ⟨⟨_, hM8⟩, Mod.refl _ _⟩))
  have wr1 : ks.length = 1 → (x.op = 23 ∨ x.op = 27 ∨ x.op = 31 ∨ x.op = 32 ∨ x.op = 33 ∨ x.op = 34) → ∀ (Q : PQ), (∀ w', DoP h w0 l bM E I w (m.hosts (H.wr m.h x (nthF ks 0))) w' → Q (.tuple #[]) w') → f46_22 (.pointer (some ⟨bM, 0, none⟩)) (.slice a ks.length c) (.pointer (some ⟨w.heap.size, 0, none⟩)) Q w6 := by
   intro ha ho Q hQ
   unfold f46_22
   refine kN_at ?_
   refine kfld_of ?_
   refine kldN_at hb6d rfl (by omega) ?_
   refine kG_of rfl ?_
   refine kixn hs6 (i := 0) (by omega) rfl ?_
   refine kG_of rfl ?_
   exact wr ho _ (nthF64 hks 0) Q hQ
  have wr0 : (x.op = 23 ∨ x.op = 27 ∨ x.op = 31 ∨ x.op = 32 ∨ x.op = 33 ∨ x.op = 34) → ∀ (Q : PQ), (∀ w', DoP h w0 l bM E I w (m.hosts (H.wr m.h x 0)) w' → Q (.tuple #[]) w') → f46_25 (.pointer (some ⟨bM, 0, none⟩)) (.pointer (some ⟨w.heap.size, 0, none⟩)) Q w6 := by
   intro ho Q hQ
   unfold f46_25
   refine kN_at ?_
   refine kfld_of ?_
   refine kldN_at hb6d rfl (by omega) ?_
   refine kG_of rfl ?_
   exact wr ho _ I64_0 Q hQ
  unfold f46_20
  refine eql_at ?_
  refine kB_at ?_
  refine kIf_dec (fun ho => ?_) (fun h23 => ?_)
  ·have ha : ks.length = 1 := by rw [has, ho]; rfl
   rw [if_pos ho, decide_eq_true ho]
   unfold f46_21
   refine kB_at ?_
   refine kIf_T rfl ?_
   exact wr1 ha (.inl ho) _ fun w' h => h
  rw [if_neg h23]
  refine eql_at ?_
  unfold f46_21
  refine kB_at ?_
  refine kIf_dec (fun ho => ?_) (fun h27 => ?_)
  ·have ha : ks.length = 1 := by rw [has, ho]; rfl
   rw [if_pos ho]
   exact wr1 ha (.inr (.inl ho)) _ fun w' h => h
  rw [if_neg h27]
  unfold f46_23
  refine eql_at ?_
  refine kB_at ?_
  refine kIf_dec (fun ho => ?_) (fun h31 => ?_)
  ·rw [if_pos ho, decide_eq_true ho]
   unfold f46_24
   refine kB_at ?_
   refine kIf_T rfl ?_
   exact wr0 (by omega) _ fun w' h => h
  rw [if_neg h31]
  refine eql_at ?_
  refine kB_at ?_
  refine kIf_dec (fun ho => ?_) (fun h32 => ?_)
  ·rw [if_pos ho, decide_eq_true ho]
   unfold f46_24
   refine kB_at ?_
   refine kIf_T rfl ?_
   exact wr0 (by omega) _ fun w' h => h
  rw [if_neg h32]
  refine eql_at ?_
  refine kB_at ?_
  refine kIf_dec (fun ho => ?_) (fun h33 => ?_)
  ·rw [if_pos ho, decide_eq_true ho]
   unfold f46_24
   refine kB_at ?_
   refine kIf_T rfl ?_
   exact wr0 (by omega) _ fun w' h => h
  rw [if_neg h33]
  refine eql_at ?_
  unfold f46_24
  refine kB_at ?_
  refine kIf_dec (fun ho => ?_) (fun h34 => ?_)
  ·rw [if_pos ho]
   exact wr0 (by omega) _ fun w' h => h
  rw [if_neg h34]
  have hrd : ¬ reads x.op := fun e => hh.rdi m.h x hok e hr
  have ha : ks.length = 2 := by
   obtain ⟨n, hn⟩ : ∃ n : Nat, x.op = (n : Int) := ⟨x.op.toNat, by omega⟩
   have h36 : n < 36 := by omega
   have hall : ∀ n : Nat, n < 36 → takesF n = 2 ∨ n = 0 ∨ n = 1 ∨ n = 2 ∨ n = 3 ∨ n = 11 ∨ 19 ≤ n := by decide
   rcases hall n h36 with hh | hh
   ·rw [has, hn]; exact hh
   ·unfold reads at hrd
    omega
  unfold f46_26
  refine kfld_of ?_
  refine kld_of (v := .int .i64 x.op) hb6d rfl ?_
  refine kG_of rfl ?_
  refine kixn hs6 (i := 0) (by omega) rfl ?_
  refine kG_of rfl ?_
  refine kixn hs6 (i := 1) (by omega) rfl ?_
  refine kG_of rfl ?_
  refine kcall_of (calcG_spec _ _ _ w6.drew) ?_
  rintro v' w8 ⟨rfl, rfl⟩
  refine kbldS_of (cs := [nV (calcG x.op (nthF ks 0) (nthF ks 1))]) rfl fun w10 h10 hs10 hb10 => ?_
  refine kcall_of (mlLayI hh (hM6d.same hh h10) [calcG x.op (nthF ks 0) (nthF ks 1)] (SlIs.blk hb10 rfl) hst (by simp)) ?_
  rintro v' w12 h12
  exact DoP.same (m6d.trans h10) h12
end
end
section
attribute [local irreducible] kO kB kStr kInt kN kG kIf kfld kld kldN kst knew kmap kbld kbldS kext kcnv klenStr klen kcap kprt kprtN kbool kint kstr keq kun ksl kix kiv kta kmk kmm ksem ksemU kextf kcallV kcallM kcall kL
theorem mlWrong {Sa : Nat → Addr} {k lo : Nat} {x : Value} {w : World} (h : ErrX Sa k lo x w) (hlo : lo ≤ w.heap.size) : Meets Tryz.prog 43 #[x] w fun v w' => ErrX Sa k lo v w' ∧ Same w w' := by
 refine f43_ok ?_
 unfold f43
 refine kcall_of (atX_spec _ h hlo) ?_
 rintro v w' ⟨h1, h2⟩
 exact ⟨h1, h2⟩
def ErrN (Sa : Nat → Addr) (k lo : Nat) (e : Value) (w : World) : Prop := if k = 0 then e = .nilIface else ErrX Sa k lo e w
theorem ErrN.mod {Sa : Nat → Addr} {k lo : Nat} {fp : Nat → Prop} {x : Value} {w w' : World} (h : ErrN Sa k lo x w) (hm : Mod fp w w') (hf : ∀ b, lo ≤ b → b < w.heap.size → ¬ fp b) : ErrN Sa k lo x w' := by
 unfold ErrN at *
 split at h
 ·rename_i hk; rw [if_pos hk]; exact h
 ·rename_i hk; rw [if_neg hk]; exact h.mod hm hf
theorem ErrN.same {Sa : Nat → Addr} {k lo : Nat} {x : Value} {w w' : World} (h : ErrN Sa k lo x w) (hm : Same w w') : ErrN Sa k lo x w' := h.mod hm fun _ _ _ h => h
theorem ErrN.mono {Sa : Nat → Addr} {k lo lo' : Nat} {x : Value} {w : World} (h : ErrN Sa k lo x w) (hlo : lo' ≤ lo) : ErrN Sa k lo' x w := by
 unfold ErrN at *
 split at h
 ·rename_i hk; rw [if_pos hk]; exact h
 ·rename_i hk; rw [if_neg hk]; exact h.mono hlo
theorem ErrN.zero {Sa : Nat → Addr} {lo : Nat} {w : World} : ErrN Sa 0 lo .nilIface w := by unfold ErrN; rw [if_pos rfl]
structure Tld (p : Nat → Prop) (Sa : Nat → Addr) (w0 : World) : Prop where
 hL : LaidP p Sa w0
 hr : RowsAt w0
 k12 : p 12
 k13 : p 13
 k14 : p 14
 k15 : p 15
section
variable {σ : Type} {H : HostM σ} {h : HC} {w0 : World} {ok : IN → Prop} {cost : σ → Nat} {I : (Nat → Prop) → World → σ → Prop} {l : List IN} {bM : Nat} {E X : Nat → Prop} {w w' : World} {m : MS σ} {p : Nat → Prop} {Sa : Nat → Addr}
theorem mlStep (ht : Tld p Sa w0) (hh : HostI H h w0 ok cost I) (hM : MI h l bM E I X w m) (hg : m.good l.length) (hl : l.length ≤ 1000000) (hok : ∀ x ∈ l, ok x) (hc : cost m.h ≤ 5000) (hnum : numL m.st) :
  Meets Tryz.prog 11 #[.pointer (some ⟨bM, 0, none⟩)] w fun v w' => (∃ e, v = .tuple #[.bool (stepF H l m).2.1, e] ∧ ErrN Sa (stepF H l m).2.2 w.heap.size e w') ∧ DoP h w0 l bM E I w (stepF H l m).1 w' := by
 have hb0 := hh.base hM.hi
 obtain ⟨hg1, hg2, hg3⟩ := hg
 have hbM := hM.ml.lt
 refine f11_ok ?_
 unfold f11
 rw [keq_ptr_nil ptMill]
 refine kB_at ?_
 refine kIf_F rfl ?_
 refine kcall_of (mlOver hM.ml) ?_
 rintro v w7 ⟨rfl, h7⟩
 refine kB_at ?_
 have h7d : Same w w7.drew := h7.drew
 refine kIf_of (fun ho => ?_) (fun ho => ?_)
 ·rw [stepF_over ho]
  exact ⟨⟨_, rfl, ErrN.zero⟩, DoP.same h7 ⟨⟨_, hM.same hh h7⟩, Mod.refl _ _⟩⟩
 unfold f11_0
 have hM7 := hM.same hh h7d
 generalize w7.drew = wd at *
 obtain ⟨la, lc, sv, hb, hli, ho', hla, hsv⟩ := hM7.ml.ex
 have hp : m.place < l.length := by
  unfold overF at ho
  rw [Bool.or_eq_false_iff] at ho
  have := of_decide_eq_false ho.2
  omega
 have ho : ¬ overF l.length m = true := by rw [ho]; decide
 have hx : l[m.place]? = some (l[m.place]) := List.getElem?_eq_getElem hp
 rw [stepF_at ho hx]
 have hxin : l[m.place] ∈ l := List.getElem_mem hp
 obtain ⟨b, o, cs, t, f, rfl, hbl, hle, hcs⟩ := hli.at hp (by omega)
 rw [flat_get IN.cells 3 (fun _ => rfl) l m.place hp] at hcs
 generalize l[m.place] = x at *
 refine kN_at ?_
 refine kfld_of ?_
 refine kld_at hb rfl ?_
 refine kG_of rfl ?_
 refine kN_at ?_
 refine kfld_of ?_
 refine kld_at hb rfl ?_
 refine kG_of rfl ?_
 unfold natV
 rw [kix_slice]
 refine kG_of (by omega) ?_
 rw [add_mk, Int.toNat_natCast]
 refine kldN_of (cs := x.cells) hbl (by omega) hcs (by omega) ?_
 refine kG_of rfl ?_
 refine knew_of fun w15 h15 hs15 hb15 => ?_
 have hb15' := h15.get hb (fun h => h)
 refine kG_of ?_ ?_
 ·refine kldN_of (cs := x.cells) (h15.get hbl (fun h => h)) (by omega) hcs (by omega) ?_
  exact ⟨rfl, rfl⟩
 refine kG_of ?_ ?_
 ·refine kld_at hb15' rfl ?_
  exact ⟨rfl, rfl⟩
 refine kG_of ?_ ?_
 ·refine kld_at hb15' rfl ?_
  exact ⟨rfl, rfl⟩
 refine kst_of (vs := x.cells) hb15 rfl rfl rfl (by simp) (by simp [IN.cells]) fun w16 h16 hs16 hb16 => ?_
 have hb16 : blk w16 wd.heap.size = some (.cells x.cells.toArray 88) := hb16
 have h16' : Same wd w16 := Mod.after h15 h16 (fun b hb => by omega)
 have m16 := h7d.trans h16'
 have hM16 := hM.same hh m16
 refine kldN_at hb16 rfl (by omega) ?_
 refine kcall_of (mlCheck (ht.hL.same (hb0.trans m16)) (ht.hr.same (hb0.trans m16)) ht.k12 ht.k13 ht.k14 ht.k15 hM16.ml hl (by omega) x) ?_
 rintro v w19 ⟨rfl, h19⟩
 have m19 := m16.trans h19
 have hM19 := hM.same hh m19
 have hb19 := h19.get hb16 (fun h => h)
 obtain ⟨la2, lc2, sv2, hc19, _⟩ := hM19.ml.ex
 by_cases hck : chkF l.length m x = 0
 ·rw [if_pos hck, if_neg (fun hn => hn hck), keq_nil_nil' ifErr]
  obtain ⟨c1, c2, c3, c4, c5⟩ := chkF_ok hck
  refine kB_at ?_
  refine kIf_F rfl ?_
  unfold f11_1
  refine kN_at ?_
  refine kfld_of ?_
  refine kld_at hc19 rfl ?_
  unfold natV
  refine sub_at (by omega) (by omega) ?_
  rw [show ((m.fuel : Int) - 1) = ((m.fuel - 1 : Nat) : Int) by omega]
  refine kN_at ?_
  refine kfld_of ?_
  refine kst1_of hc19 rfl rfl (by simp [millC]) fun w30 h30 hs30 hb30 => ?_
  have hb30 : blk w30 bM = some (.cells (millC h la2 l.length lc2 m.place sv2 (m.fuel - 1) m.over) 111) := hb30
  refine kN_at ?_
  refine kfld_of ?_
  refine kld_at hb30 rfl ?_
  unfold natV
  refine add_at (by omega) (by omega) ?_
  rw [show ((m.place : Int) + 1) = ((m.place + 1 : Nat) : Int) by omega]
  refine kN_at ?_
  refine kfld_of ?_
  refine kst1_of hb30 rfl rfl (by simp [millC]) fun w35 h35 hs35 hb35 => ?_
  have hb35 : blk w35 bM = some (.cells (millC h la2 l.length lc2 (m.place + 1) sv2 (m.fuel - 1) m.over) 111) := hb35
  have hm35 : Mod (fun k => k = bM) w19 w35 := h30.trans h35
  have hQ35 : MlAt h l bM E X w35 { m with fuel := m.fuel - 1, place := m.place + 1 } := hM19.ml.set rfl hm35 fun la' lc' sv' e => by rw [hc19] at e; cases e; exact hb35
  have hP35 := hM19.put hh (m' := { m with fuel := m.fuel - 1, place := m.place + 1 }) rfl hm35 (fun k hk => hk ▸ hM19.ml.own) (hQ35.weak fun k hk => Or.inl hk)
  obtain ⟨⟨X5, hM35⟩, hf35⟩ := hP35
  have hx35 := hm35.get hb19 (fun e => by have := m16.size; have := h7d.size; omega)
  have hb35s := hh.base hM35.hi
  refine kfld_of ?_
  refine kld_of (v := .int .i64 x.op) hx35 rfl ?_
  refine kcall_of (movesA (ht.hr.same hb35s) x.op) ?_
  rintro v w39 ⟨rfl, h39⟩
  refine kext_at rfl ?_
  refine kext_at rfl ?_
  have h39d : Same w35 w39.drew := h39.drew
  have hM39 := hM35.same hh h39d
  have hx39 := h39d.get hx35 (fun h => h)
  generalize w39.drew = wk at *
  refine kldN_at hx39 rfl (by omega) ?_
  refine kG_of rfl ?_
  obtain ⟨rb1, rb2, rb3, rb4⟩ := rowF_bnd x.op
  have etk : (rowF x.op).2.2.1 = ((takesF x.op : Nat) : Int) := by unfold takesF; omega
  rw [etk]
  refine kcall_of (mlTake hM39.ml (takesF x.op) c3 (by show m.st.length ≤ 1000; omega)) ?_
  rintro v w44 ⟨hov, hMl44, hm44⟩
  have hP44 := hM39.put hh (m' := preF m x) rfl hm44 (fun k hk => hk ▸ hM39.ml.own) (MlAt.weak (X' := newB wk w44 X5) hMl44 fun k hk => Or.inl hk)
  obtain ⟨⟨X6, hM44⟩, hf44⟩ := hP44
  refine kG_of ?_ ?_
  ·refine kldN_at (hm44.get hx39 (fun e => by have := m16.size; have := h7d.size; omega)) rfl (by omega) ?_
   exact ⟨rfl, rfl⟩
  obtain ⟨a, n, c, rfl, hs44, hn44⟩ := hov.is
  have hn44 : n = (m.st.drop (m.st.length - takesF x.op)).length := by simpa using hn44 rfl
  subst hn44
  refine kcall_of (mlDo hh hM44 x (hok x hxin) c2 (fun hj => (c5 hj).1) hc (by show (m.st.take _).length ≤ 16; rw [List.length_take]; omega) hs44 (by rw [List.length_drop]; omega) (fun v hv => hnum v (List.mem_of_mem_drop hv))) ?_
  rintro v w46 h46
  exact ⟨⟨_, rfl, ErrN.zero⟩, DoP.same m19 (DoP.from hf35 (DoP.same h39d (DoP.from hf44 h46)))⟩
 ·rw [if_neg hck, if_pos hck, errV, keq_if_nil' ifErr]
  refine kB_at ?_
  refine kIf_T rfl ?_
  refine kN_at ?_
  refine kfld_of ?_
  refine kst1_of hc19 rfl rfl (by simp [millC]) fun w23 h23 hs23 hb23 => ?_
  have hb23 : blk w23 bM = some (.cells (millC h la2 l.length lc2 m.place sv2 m.fuel true) 111) := hb23
  have hQ23 : MlAt h l bM E X w23 m.ends := hM19.ml.set rfl h23 fun la' lc' sv' e => by rw [hc19] at e; cases e; exact hb23
  have hP23 := hM19.put hh (m' := m.ends) rfl h23 (fun k hk => hk ▸ hM19.ml.own) (hQ23.weak fun k hk => Or.inl hk)
  obtain ⟨⟨X5, hM23⟩, hf23⟩ := hP23
  have hz : w.heap.size ≤ w23.heap.size := Nat.le_trans m19.size h23.size
  refine kcall_of (mlWrong (ErrX.sent Sa (chkF l.length m x) w.heap.size w23) hz) ?_
  rintro v w25 ⟨he, h25⟩
  exact ⟨⟨_, rfl, by unfold ErrN; rw [if_neg hck]; exact he⟩, DoP.same m19 (DoP.from hf23 ⟨⟨_, hM23.same hh h25⟩, Mod.of_same h25⟩)⟩
end
end
section
attribute [local irreducible] kO kB kStr kInt kN kG kIf kfld kld kldN kst knew kmap kbld kbldS kext kcnv klenStr klen kcap kprt kprtN kbool kint kstr keq kun ksl kix kiv kta kmk kmm ksem ksemU kextf kcallV kcallM kcall kL
theorem cloneIn_spec {w : World} {a : Option Addr} {n c : Nat} {us : List Value} (hs : SlIs w a n 3 us) (h1 : oneCells us = true) (hn : us.length ≤ 1099511627776) :
  Meets Tryz.prog 51 #[.slice a n c] w fun v w' => Own w' v 3 us ∧ Same w w' ∧ (∀ b, vblk v b → w.heap.size ≤ b) := by
 refine f51_ok ?_
 unfold f51
 rw [keq_sl_nil slIns]
 refine kB_at ?_
 cases a with
 | none =>
  have : n = 0 := by rcases hs.2 with h | ⟨_, _, _, _, _, h, _⟩; exact h; cases h
  subst this
  have : us = [] := by simpa using hs.1
  subst this
  refine kIf_T rfl ?_
  exact ⟨Own.nil _ _, Mod.refl _ _, fun b hb => by obtain ⟨_, _, _, h⟩ := hb; cases h⟩
 | some a =>
  refine kIf_F rfl ?_
  unfold f51_0
  refine kbldS_of (cs := []) rfl fun w5 h5 hs5 hb5 => ?_
  refine ksem_append apIns (by omega) (vs := []) (Own.blk hb5 (n := 0) (by simp) (by simp [maxLen])) (Src.ofSlIs (hk := (slT_of (P := Tryz.prog) (t := 27) (by kernel_rfl)).choose_spec) c (hs.same h5) h1) (by simp; omega) (by simp; omega) ?_
  intro v' w' ho hm hf
  refine ⟨by simpa using ho, Mod.after h5 hm (fun b hb => by rw [vblk_new hb]; exact Nat.le_refl _), fun b hb => ?_⟩
  rcases hf b hb with h | h
  ·rw [vblk_new h]; exact Nat.le_refl _
  ·omega
theorem nvn (k : Nat) : ¬ vblk (.slice none 0 0) k := by rintro ⟨_, _, _, e⟩; cases e
theorem IN_ones : ∀ l : List IN, oneCells (l.flatMap IN.cells) = true
 | [] => rfl
 | x :: l => by
  rw [List.flatMap_cons]
  show oneCells (.int .i64 x.op :: .int .i64 x.a :: .int .i64 x.b :: l.flatMap IN.cells) = true
  simp only [oneCells, IN_ones l]; rfl
def fuel0 (fuel : Int) : Nat := (min (max fuel 0) 4096).toNat
def MS.first {σ : Type} (fuel : Int) (s : σ) : MS σ := ⟨0, [], fuel0 fuel, false, s⟩
theorem mlNew {w : World} (h : HC) (l : List IN) {a : Option Addr} {c : Nat} (hs : SlIs w a l.length 3 (l.flatMap IN.cells)) (hn : l.length ≤ 1000000) (fuel : Int) :
  Meets Tryz.prog 17 #[.agg h.cells.toArray, .slice a l.length c, .int .i64 fuel] w fun v w' =>
   ∃ bM : Nat, v = .pointer (some ⟨bM, 0, none⟩) ∧ w.heap.size ≤ bM ∧ Same w w' ∧ ∀ {σ : Type} (s : σ) (E X : Nat → Prop), (∀ k, E k → k < w.heap.size) → MlAt h l bM E (newB w w' X) w' (MS.first fuel s) := by
 refine f17_ok ?_
 unfold f17
 refine knew_of fun w2 h2 hs2 hb2 => ?_
 have hb2 : blk w2.drew w.heap.size = some (.cells h.cells.toArray 38) := hb2
 have m2 : Same w w2.drew := h2.drew
 generalize w2.drew = wd at *
 refine kldN_at hb2 rfl (by omega) ?_
 refine kG_of rfl ?_
 refine kcall_of (cloneIn_spec (hs.same m2) (IN_ones l) (by rw [flat_len IN.cells 3 (fun _ => rfl)]; omega)) ?_
 rintro v w5 ⟨ho, h5, hf⟩
 refine kG_of ?_ ?_
 ·refine kldN_at (h5.get hb2 (fun h => h)) rfl (by omega) ?_
  exact ⟨rfl, rfl⟩
 rw [kmm_max, kmm_min]
 obtain ⟨la, n, lc, e, hsl, _⟩ := ho.is
 subst e
 have hlen : n = l.length := by
  have := hsl.1
  rw [flat_len IN.cells 3 (fun _ => rfl)] at this
  omega
 subst hlen
 have hfu : (.int .i64 (min (max fuel 0) 4096) : Value) = natV (fuel0 fuel) := by
  unfold natV fuel0
  rw [Int.toNat_of_nonneg (by omega)]
 rw [hfu]
 refine kbld_of (cs := (millC h la l.length lc 0 (.slice none 0 0) (fuel0 fuel) false).toList) rfl ?_
 refine knew_of fun w12 h12 hs12 hb12 => ?_
 refine ⟨w5.heap.size, rfl, Nat.le_trans m2.size h5.size, m2.trans (h5.trans h12), fun {σ} s E X hE => ?_⟩
 have z5 := Nat.le_trans m2.size h5.size
 have zz := h12.size
 refine ⟨⟨la, lc, .slice none 0 0, hb12, hsl.same h12, Own.nil _ _, fun k f e => ?_, fun k hk => absurd hk (nvn k)⟩, .inr ⟨z5, by omega⟩, fun he => by have := hE _ he; omega⟩
 have hv : vblk (.slice la l.length lc) k := ⟨f, _, _, by rw [e]⟩
 have hlt := ho.vblk_lt hv
 have hlo := hf k hv
 have := m2.size
 exact ⟨⟨.inr ⟨by omega, by omega⟩, by omega, nvn k⟩, by omega⟩
theorem doN_cost {σ : Type} {H : HostM σ} {cost : σ → Nat} (cw : ∀ s x n, cost (H.wr s x n) ≤ cost s + 1) (cd : ∀ s n, cost (H.dr s n).1 ≤ cost s + 1) (m : MS σ) (x : IN) (a : List Int) : cost (doN H m x a).h ≤ cost m.h + 1 := by
 have h0 : ∀ z : MS σ, z.h = m.h → cost z.h ≤ cost m.h + 1 := fun z e => by rw [e]; omega
 unfold doN
 refine ite_at (P := fun z : MS σ => cost z.h ≤ cost m.h + 1) (fun h => h0 _ rfl) (fun h2 => ?_)
 refine ite_at (P := fun z : MS σ => cost z.h ≤ cost m.h + 1) (fun h => h0 _ rfl) (fun h4 => ?_)
 refine ite_at (P := fun z : MS σ => cost z.h ≤ cost m.h + 1) (fun h => h0 _ rfl) (fun h5 => ?_)
 refine ite_at (P := fun z : MS σ => cost z.h ≤ cost m.h + 1) (fun h => h0 _ rfl) (fun h11 => ?_)
 refine ite_at (P := fun z : MS σ => cost z.h ≤ cost m.h + 1) (fun h => h0 _ rfl) (fun h19 => ?_)
 refine ite_at (P := fun z : MS σ => cost z.h ≤ cost m.h + 1) (fun h => cd m.h _) (fun h28 => ?_)
 refine ite_at (P := fun z : MS σ => cost z.h ≤ cost m.h + 1) (fun h => h0 _ rfl) (fun h0' => ?_)
 refine ite_at (P := fun z : MS σ => cost z.h ≤ cost m.h + 1) (fun h => h0 _ rfl) (fun h3 => ?_)
 refine ite_at (P := fun z : MS σ => cost z.h ≤ cost m.h + 1) (fun h => h0 _ rfl) (fun h35 => ?_)
 refine ite_at (P := fun z : MS σ => cost z.h ≤ cost m.h + 1) (fun h => ite_at (P := fun z : MS σ => cost z.h ≤ cost m.h + 1) (fun _ => h0 _ rfl) (fun _ => h0 _ rfl)) (fun h21 => ?_)
 refine ite_at (P := fun z : MS σ => cost z.h ≤ cost m.h + 1) (fun h => h0 _ rfl) (fun h20 => ?_)
 refine ite_at (P := fun z : MS σ => cost z.h ≤ cost m.h + 1) (fun h => cw m.h _ _) (fun h23 => ?_)
 refine ite_at (P := fun z : MS σ => cost z.h ≤ cost m.h + 1) (fun h => cw m.h _ _) (fun h27 => ?_)
 refine ite_at (P := fun z : MS σ => cost z.h ≤ cost m.h + 1) (fun h => cw m.h _ _) (fun h31 => ?_)
 refine ite_at (P := fun z : MS σ => cost z.h ≤ cost m.h + 1) (fun h => cw m.h _ _) (fun h32 => ?_)
 refine ite_at (P := fun z : MS σ => cost z.h ≤ cost m.h + 1) (fun h => cw m.h _ _) (fun h33 => ?_)
 refine ite_at (P := fun z : MS σ => cost z.h ≤ cost m.h + 1) (fun h => cw m.h _ _) (fun h34 => ?_)
 exact h0 _ rfl
theorem flagF64 (b : Bool) : I64 (flagF b) := by unfold flagF I64; split <;> omega
theorem wrap64 (n : Int) : I64 (IntKind.i64.wrap n) := wrap_rng n
theorem calcG64 (op y x : Int) (hy : I64 y) : I64 (calcG op y x) := by
 unfold calcG
 refine ite_at (P := I64) (fun _ => wrap64 _) (fun _ => ?_)
 refine ite_at (P := I64) (fun _ => wrap64 _) (fun _ => ?_)
 refine ite_at (P := I64) (fun _ => wrap64 _) (fun _ => ?_)
 refine ite_at (P := I64) (fun _ => ite_at (P := I64) (fun _ => I64_0) (fun _ => wrap64 _)) (fun _ => ?_)
 refine ite_at (P := I64) (fun _ => ite_at (P := I64) (fun _ => I64_0) (fun _ => wrap64 _)) (fun _ => ?_)
 refine ite_at (P := I64) (fun _ => wrap64 _) (fun _ => ?_)
 refine ite_at (P := I64) (fun _ => wrap64 _) (fun _ => ?_)
 refine ite_at (P := I64) (fun _ => wrap64 _) (fun _ => ?_)
 refine ite_at (P := I64) (fun _ => wrap64 _) (fun _ => ?_)
 refine ite_at (P := I64) (fun _ => ?_) (fun _ => ?_)
 ·unfold shrF ishr
  generalize (min ((IntKind.u64.wrap x).tmod 64).toNat IntKind.i64.bits) = k
  have hp : (0 : Int) < 2 ^ k := Int.pow_pos (by decide)
  rw [Int.fdiv_eq_ediv_of_nonneg _ (by omega)]
  obtain ⟨h1, h2⟩ := hy
  refine ⟨?_, ?_⟩
  ·by_cases h0 : 0 ≤ y
   ·have := Int.ediv_nonneg h0 (by omega : (0 : Int) ≤ 2 ^ k); omega
   ·refine Int.le_ediv_of_mul_le hp ?_
    have : (-9223372036854775808 : Int) * 2 ^ k ≤ -9223372036854775808 * 1 := Int.mul_le_mul_of_nonpos_left (by decide) (by omega)
    omega
  ·by_cases h0 : 0 ≤ y
   ·have := Int.ediv_le_self (2 ^ k) h0; omega
   ·have := Int.ediv_neg_of_neg_of_pos (by omega : y < 0) hp; omega
 refine ite_at (P := I64) (fun _ => flagF64 _) (fun _ => flagF64 _)
theorem lays64 {σ : Type} {m : MS σ} {ns : List Int} (h : numL m.st) (hn : numL ns) : numL (m.lays ns).st := by
 intro v hv
 have hv : v ∈ m.st ++ ns := hv
 rcases List.mem_append.1 hv with hv | hv
 ·exact h v hv
 ·exact hn v hv
theorem num1 {a : Int} (h : I64 a) : numL [a] := fun v hv => by rw [List.mem_singleton.1 hv]; exact h
theorem numC {a : Int} {l : List Int} (h : I64 a) (hl : numL l) : numL (a :: l) := fun v hv => by
 rcases List.mem_cons.1 hv with e | e
 ·rw [e]; exact h
 ·exact hl v e
theorem doN_num {σ : Type} {H : HostM σ} (dr64 : ∀ s n, I64 (H.dr s n).2) {m : MS σ} (x : IN) {a : List Int} (h : numL m.st) (ha : numL a) : numL (doN H m x a).st := by
 have n0 := nthF64 ha 0
 have n1 := nthF64 ha 1
 unfold doN
 refine ite_at (P := fun z : MS σ => numL z.st) (fun _ => lays64 h (numC n0 (num1 n0))) (fun h2 => ?_)
 refine ite_at (P := fun z : MS σ => numL z.st) (fun _ => lays64 h (numC n1 (num1 n0))) (fun h4 => ?_)
 refine ite_at (P := fun z : MS σ => numL z.st) (fun _ => lays64 h (numC n0 (numC n1 (num1 n0)))) (fun h5 => ?_)
 refine ite_at (P := fun z : MS σ => numL z.st) (fun _ => lays64 h (num1 (wrap64 _))) (fun h11 => ?_)
 refine ite_at (P := fun z : MS σ => numL z.st) (fun _ => lays64 h (num1 (flagF64 _))) (fun h19 => ?_)
 refine ite_at (P := fun z : MS σ => numL z.st) (fun _ => lays64 (m := m.hosts _) h (num1 (dr64 _ _))) (fun h28 => ?_)
 refine ite_at (P := fun z : MS σ => numL z.st) (fun _ => h) (fun h0' => ?_)
 refine ite_at (P := fun z : MS σ => numL z.st) (fun _ => h) (fun h3 => ?_)
 refine ite_at (P := fun z : MS σ => numL z.st) (fun _ => h) (fun h35 => ?_)
 refine ite_at (P := fun z : MS σ => numL z.st) (fun _ => ite_at (P := fun z : MS σ => numL z.st) (fun _ => h) (fun _ => h)) (fun h21 => ?_)
 refine ite_at (P := fun z : MS σ => numL z.st) (fun _ => h) (fun h20 => ?_)
 refine ite_at (P := fun z : MS σ => numL z.st) (fun _ => h) (fun h23 => ?_)
 refine ite_at (P := fun z : MS σ => numL z.st) (fun _ => h) (fun h27 => ?_)
 refine ite_at (P := fun z : MS σ => numL z.st) (fun _ => h) (fun h31 => ?_)
 refine ite_at (P := fun z : MS σ => numL z.st) (fun _ => h) (fun h32 => ?_)
 refine ite_at (P := fun z : MS σ => numL z.st) (fun _ => h) (fun h33 => ?_)
 refine ite_at (P := fun z : MS σ => numL z.st) (fun _ => h) (fun h34 => ?_)
 exact lays64 h (num1 (calcG64 _ _ _ n0))
theorem stepF_num {σ : Type} {H : HostM σ} (dr64 : ∀ s n, I64 (H.dr s n).2) {l : List IN} {m : MS σ} (hrd : ∀ x ∈ l, ∀ v, H.rd m.h x = some v → I64 v) (h : numL m.st) : numL (stepF H l m).1.st := by
 by_cases ho : overF l.length m = true
 ·rw [stepF_over ho]; exact h
 ·cases hx : l[m.place]? with
  | none => rw [stepF_none ho hx]; exact h
  | some x =>
   rw [stepF_at ho hx]
   by_cases hc : chkF l.length m x ≠ 0
   ·rw [if_pos hc]; exact h
   ·rw [if_neg hc]
    have hp : numL (preF m x).st := fun v hv => h v (List.mem_of_mem_take hv)
    have ha : numL (m.st.drop (m.st.length - takesF x.op)) := fun v hv => h v (List.mem_of_mem_drop hv)
    show numL (doF H (preF m x) x _).st
    unfold doF
    cases hr : H.rd (preF m x).h x with
    | some v => exact lays64 hp (num1 (hrd x (List.mem_of_getElem? hx) v hr))
    | none => exact doN_num dr64 x hp ha
theorem stepF_cost {σ : Type} {H : HostM σ} {cost : σ → Nat} (cw : ∀ s x n, cost (H.wr s x n) ≤ cost s + 1) (cd : ∀ s n, cost (H.dr s n).1 ≤ cost s + 1) (l : List IN) (m : MS σ) : cost (stepF H l m).1.h ≤ cost m.h + 1 := by
 by_cases ho : overF l.length m = true
 ·rw [stepF_over ho]; exact Nat.le_succ _
 ·cases hx : l[m.place]? with
  | none => rw [stepF_none ho hx]; exact Nat.le_succ _
  | some x =>
   rw [stepF_at ho hx]
   by_cases hc : chkF l.length m x ≠ 0
   ·rw [if_pos hc]; exact Nat.le_succ _
   ·rw [if_neg hc]
    show cost (doF H (preF m x) x _).h ≤ cost m.h + 1
    unfold doF
    cases H.rd (preF m x).h x with
    | some v => exact Nat.le_succ _
    | none => exact doN_cost cw cd (preF m x) x _
section
variable {σ : Type} {H : HostM σ} {h : HC} {w0 : World} {ok : IN → Prop} {cost : σ → Nat} {I : (Nat → Prop) → World → σ → Prop} {l : List IN} {E X : Nat → Prop} {w : World} {p : Nat → Prop} {Sa : Nat → Addr}
def RunI (h : HC) (w0 : World) (H : HostM σ) (cost : σ → Nat) (I : (Nat → Prop) → World → σ → Prop) (l : List IN) (bM : Nat) (E : Nat → Prop) (w : World) (m0 : MS σ) (i : Nat) (w1 : World) : Prop :=
 ∃ X m, MI h l bM E I X w1 m ∧ m.good l.length ∧ m.fuel + i = m0.fuel ∧ cost m.h + m.fuel ≤ 4999 ∧ numL m.st ∧ runF H l (m.fuel + 1) m = runF H l (m0.fuel + 1) m0 ∧ Mod (fun k => w0.heap.size ≤ k ∧ ¬ E k) w w1
theorem mlRun (ht : Tld p Sa w0) (hh : HostI H h w0 ok cost I) {a : Option Addr} {c : Nat} (hs : SlIs w a l.length 3 (l.flatMap IN.cells)) (hl : l.length ≤ 1000000) (hok : ∀ x ∈ l, ok x) {s : σ} (hi : I X w s) (hE : ∀ k, E k → X k) (fuel : Int) (hc : cost s + fuel0 fuel ≤ 4999) :
  Meets Tryz.prog 10 #[.agg h.cells.toArray, .slice a l.length c, .int .i64 fuel] w fun v w' => (∃ e, v = .tuple #[natV (runF H l (fuel0 fuel + 1) (MS.first fuel s)).1.fuel, e] ∧ ErrN Sa (runF H l (fuel0 fuel + 1) (MS.first fuel s)).2 w.heap.size e w') ∧
   (∃ X', I X' w' (runF H l (fuel0 fuel + 1) (MS.first fuel s)).1.h ∧ ∀ k, E k → X' k) ∧ Mod (fun k => w0.heap.size ≤ k ∧ ¬ E k) w w' := by
 have hb0 := hh.base hi
 refine f10_ok ?_
 unfold f10
 refine knew_of fun w2 h2' hs2 hb2 => ?_
 have hb2 : blk w2 w.heap.size = some (.cells h.cells.toArray 38) := hb2
 refine kldN_at hb2 rfl (by omega) ?_
 have hf0 : fuel0 fuel ≤ 4096 := by unfold fuel0; omega
 refine kcall_of (mlNew h l (hs.same h2') hl fuel) ?_
 rintro v w5 ⟨bM, rfl, hbM, h5, hMl⟩
 have m5 := h2'.trans h5
 have hi5 := hh.grow (fp := fun _ => False) (hh.loc hi h2') h5 (fun k hk => hk.elim)
 have hM5 : MI h l bM E I (newB w2 w5 X) w5 (MS.first fuel s) := ⟨hMl s E X fun k hk => Nat.lt_of_lt_of_le (hh.lt hi k (hE k hk)).2 h2'.size, hi5, fun k hk => .inl (hE k hk)⟩
 refine kL0_of (fuel0 fuel) (RunI h w0 H cost I l bM E w (MS.first fuel s)) ⟨lI_0 ⟨_, _, hM5, ⟨Nat.zero_le _, Nat.zero_le _, hf0⟩, rfl, hc, (fun v hv => absurd hv List.not_mem_nil), rfl, Mod.of_same m5⟩, fun w1 hx => ?_⟩
 obtain ⟨i, hi', ⟨X1, m, hM, hg, hfu, hco, hnum, hrun, hmod⟩, hJ⟩ := lI_step hx
 unfold f10_0
 refine kcall_of (mlStep ht hh hM hg hl hok (by omega) hnum) ?_
 rintro v w7 ⟨⟨e, rfl, he⟩, ⟨X2, hM7⟩, hm7⟩
 obtain ⟨g1, g2, g3⟩ := stepF_good H hh.rdo l m hg
 have gc := stepF_cost (cost := cost) hh.costw hh.costd l m
 have hz : w.heap.size ≤ w1.heap.size := hmod.size
 have er : runF H l (m.fuel + 1) m = if (stepF H l m).2.1 = true then runF H l m.fuel (stepF H l m).1 else ((stepF H l m).1, (stepF H l m).2.2) := rfl
 refine kext_at rfl ?_
 refine kext_at rfl ?_
 refine not_at ?_
 refine kB_at ?_
 refine kIf_of (fun hb => ?_) (fun hb => ?_)
 ·have hb : (stepF H l m).2.1 = false := by simpa using hb
  rw [hb, if_neg Bool.false_ne_true] at er
  rw [er] at hrun
  refine kcall_of (mlFuel hM7.ml) ?_
  rintro v w12 ⟨rfl, rfl⟩
  show _ ∧ _ ∧ _
  have er2 : runF H l (fuel0 fuel + 1) (MS.first fuel s) = ((stepF H l m).1, (stepF H l m).2.2) := hrun.symm
  rw [er2]
  exact ⟨⟨e, rfl, he.mono hz⟩, ⟨X2, hM7.hi, hM7.e⟩, hmod.trans hm7⟩
 ·have hb : (stepF H l m).2.1 = true := by simpa using hb
  rw [hb, if_pos rfl] at er
  have g3 := g3 hb
  refine hJ _ (by have : (MS.first fuel s).fuel = fuel0 fuel := rfl; omega) ⟨X2, _, hM7, g1, by omega, by omega, stepF_num hh.dr64 (fun x hx v hv => hh.rd64 hM.hi (hok x hx) hv) hnum, ?_, hmod.trans hm7⟩
  rw [g3, ← er, hrun]
end
end
section
attribute [local irreducible] kO kB kStr kInt kN kG kIf kfld kld kldN kst knew kmap kbld kbldS kext kcnv klenStr klen kcap kprt kprtN kbool kint kstr keq kun ksl kix kiv kta kmk kmm ksem ksemU kextf kcallV kcallM kcall kL
def noneM : HostM Unit := ⟨fun _ x => if x.op = 1 then some x.a else none, fun _ _ _ => (), fun _ _ => ((), 0)⟩
def noneOk (x : IN) : Prop := (x.op = 1 ∨ x.op = 6 ∨ x.op = 7 ∨ x.op = 20 ∨ x.op = 35) ∧ I64 x.a
def noneI (w0 : World) (X : Nat → Prop) (w : World) (_ : Unit) : Prop := Same w0 w ∧ ∀ k, X k → w0.heap.size ≤ k ∧ k < w.heap.size
def nilH : HC := ⟨none, none, 0, 0, 0⟩
theorem none_host (w0 : World) : HostI noneM nilH w0 noneOk (fun _ => 0) (noneI w0) where
 base h := h.1
 lt h := h.2
 loc h m := ⟨h.1.trans m, fun k hk => ⟨(h.2 k hk).1, Nat.lt_of_lt_of_le (h.2 k hk).2 m.size⟩⟩
 less h hs := ⟨h.1, fun k hk => h.2 k (hs k hk)⟩
 grow h m hf := ⟨h.1.trans' (m.mono fun k _ hk => .inr (h.2 k (hf k hk)).1), fun k hk => hk.elim (fun hk => ⟨(h.2 k hk).1, Nat.lt_of_lt_of_le (h.2 k hk).2 m.size⟩) (fun hk => ⟨Nat.le_trans h.1.size hk.1, hk.2⟩)⟩
 rdo s x h := by
  unfold noneM at h
  by_cases h1 : x.op = 1
  ·exact .inl h1
  ·exact absurd (if_neg h1) h
 rdi s x h hr := by
  unfold noneOk at h
  unfold reads at hr
  have h1 : x.op = 1 := by omega
  show (if x.op = 1 then some x.a else none) ≠ none
  rw [if_pos h1]; exact fun e => by cases e
 read {X w s b x} h hb hok := by
  refine f90_ok ?_
  unfold f90
  refine knew_of fun w2 h2 hs2 hb2 => ?_
  have hb2 : blk w2 w.heap.size = some (.cells x.cells.toArray 88) := hb2
  refine kfld_of ?_
  refine kld_of (v := .int .i64 x.op) hb2 rfl ?_
  have e : noneM.rd s x = if x.op = 1 then some x.a else none := rfl
  rw [e]
  unfold noneOk at hok
  refine eql_at ?_
  refine kB_at ?_
  refine kIf_dec (fun h1 => ?_) (fun h1 => ?_)
  ·rw [if_pos h1]
   refine kfld_of ?_
   refine kld_of (v := .int .i64 x.a) hb2 rfl ?_
   exact ⟨rfl, h2⟩
  ·rw [if_neg h1]
   repeat (first | refine kN_at ?_ | refine kB_at ?_ | refine kfld_of ?_ | refine kext_at rfl ?_ | refine kG_of (by first | exact rfl | omega) ?_ | refine klen_at ?_ | refine eql_at ?_ | refine neq_at ?_ | refine lss_at ?_ | refine leq_at ?_ | refine gtr_at ?_ | refine geq_at ?_ | refine add_at (by omega) (by omega) ?_ | refine sub_at (by omega) (by omega) ?_ | refine not_at ?_ | refine kO_at ?_ | refine kprt_at rfl ?_ | refine kprtN_at rfl ?_ | refine kcap_at ?_ | refine klenStr_at ?_ | refine kN_iat ?_ | refine kN_fat ?_ | refine kIf_T (by first | exact rfl | exact decT (by omega) | exact notT (decF (by omega))) ?_ | refine kIf_F (by first | exact rfl | exact decF (by omega) | exact notF (decT (by omega))) ?_)
   exact ⟨rfl, h2⟩
 write h hb hX hok ho hc _ := by unfold noneOk at hok; exact absurd hok (by omega)
 draw h hb hX hok ho hc _ := by unfold noneOk at hok; exact absurd hok (by omega)
 rd64 {X w s x v} h hok hv := by
  have e : noneM.rd s x = if x.op = 1 then some x.a else none := rfl
  rw [e] at hv
  split at hv
  ·cases hv; exact hok.2
  ·cases hv
 dr64 s n := I64_0
 costw s x n := Nat.zero_le _
 costd s n := Nat.zero_le _
theorem nRun {p : Nat → Prop} {Sa : Nat → Addr} {w : World} (ht : Tld p Sa w) {l : List IN} {a : Option Addr} {c : Nat} (hs : SlIs w a l.length 3 (l.flatMap IN.cells)) (hl : l.length ≤ 1000000) (hok : ∀ x ∈ l, noneOk x) (fuel : Int) {n : Nat} {k : Nat} (h1 : (runF noneM l (fuel0 fuel + 1) (MS.first fuel ())).1.fuel = n) (h2 : (runF noneM l (fuel0 fuel + 1) (MS.first fuel ())).2 = k) :
  Meets Tryz.prog 10 #[.agg nilH.cells.toArray, .slice a l.length c, .int .i64 fuel] w fun v w' => (∃ e, v = .tuple #[natV n, e] ∧ ErrN Sa k w.heap.size e w') ∧ Same w w' :=
 (mlRun ht (none_host w) hs hl hok (s := ()) (X := fun _ => False) (E := fun _ => False) ⟨Mod.refl _ _, fun k hk => hk.elim⟩ (fun k hk => hk) fuel (by unfold fuel0; omega)).mono fun v w' ⟨⟨e, e1, e2⟩, ⟨X', hI, _⟩, _⟩ => ⟨⟨e, by rw [← h1]; exact e1, by rw [← h2]; exact e2⟩, hI.1⟩
theorem sameI_spec {w : World} {a b : Option Addr} {l1 l2 : List Int} {c1 c2 : Nat} (h1 : SlIs w a l1.length 1 (l1.map nV)) (h2 : SlIs w b l2.length 1 (l2.map nV)) (hl : l1.length ≤ 1099511627776) :
  Meets Tryz.prog 26 #[.slice a l1.length c1, .slice b l2.length c2] w fun v w' => v = .bool (decide (l1 = l2)) ∧ Same w w' := by
 refine f26_ok ?_
 unfold f26
 repeat (first | refine kN_at ?_ | refine kB_at ?_ | refine kfld_of ?_ | refine kext_at rfl ?_ | refine kG_of (by first | exact rfl | omega) ?_ | refine klen_at ?_ | refine eql_at ?_ | refine neq_at ?_ | refine lss_at ?_ | refine leq_at ?_ | refine gtr_at ?_ | refine geq_at ?_ | refine add_at (by omega) (by omega) ?_ | refine sub_at (by omega) (by omega) ?_ | refine not_at ?_ | refine kO_at ?_ | refine kprt_at rfl ?_ | refine kprtN_at rfl ?_ | refine kcap_at ?_ | refine klenStr_at ?_ | refine kN_iat ?_ | refine kN_fat ?_ | refine kIf_T (by first | exact rfl | exact decT (by omega) | exact notT (decF (by omega))) ?_ | refine kIf_F (by first | exact rfl | exact decF (by omega) | exact notF (decT (by omega))) ?_)
 refine kIf_dec (fun hne => ⟨?_, Mod.refl _ _⟩) (fun heq => ?_)
 ·rw [decide_eq_false]
  rintro rfl
  exact hne rfl
 have hlen : l1.length = l2.length := by omega
 unfold f26_0
 refine kL1_of l1.length (fun i x wr => x = .int .i64 i ∧ Same w wr ∧ l1.take i = l2.take i) ⟨lI1_0 ⟨rfl, Mod.refl _ _, by simp⟩, fun x wr hx => ?_⟩
 obtain ⟨i, hi, ⟨rfl, hm, ht⟩, hJ⟩ := lI1_step hx
 unfold f26_1
 refine klen_at ?_
 refine lss_at ?_
 refine kB_at ?_
 refine kIf_dec (fun hlt => ?_) (fun hge => ?_)
 ·have hlt : i < l1.length := by omega
  unfold f26_2
  refine kixld_of (F := nV) (h1.same hm) hlt rfl ?_
  refine kG_of rfl ?_
  refine kixld_of (F := nV) (h2.same hm) (by omega) rfl ?_
  refine kG_of rfl ?_
  refine neq_at ?_
  refine kB_at ?_
  have t1 := List.take_add_one (l := l1) (i := i)
  have t2 := List.take_add_one (l := l2) (i := i)
  rw [List.getElem?_eq_getElem hlt] at t1
  rw [List.getElem?_eq_getElem (show i < l2.length by omega)] at t2
  refine kIf_dec (fun hne => ⟨?_, hm.drew⟩) (fun heq => ?_)
  ·rw [decide_eq_false]
   rintro rfl
   exact hne rfl
  ·unfold f26_3
   repeat (first | refine kN_at ?_ | refine kB_at ?_ | refine kfld_of ?_ | refine kext_at rfl ?_ | refine kG_of (by first | exact rfl | omega) ?_ | refine klen_at ?_ | refine eql_at ?_ | refine neq_at ?_ | refine lss_at ?_ | refine leq_at ?_ | refine gtr_at ?_ | refine geq_at ?_ | refine add_at (by omega) (by omega) ?_ | refine sub_at (by omega) (by omega) ?_ | refine not_at ?_ | refine kO_at ?_ | refine kprt_at rfl ?_ | refine kprtN_at rfl ?_ | refine kcap_at ?_ | refine klenStr_at ?_ | refine kN_iat ?_ | refine kN_fat ?_ | refine kIf_T (by first | exact rfl | exact decT (by omega) | exact notT (decF (by omega))) ?_ | refine kIf_F (by first | exact rfl | exact decF (by omega) | exact notF (decT (by omega))) ?_)
   rw [cast_succ]
   refine hJ _ _ hlt ⟨rfl, hm.drew, ?_⟩
   rw [t1, t2, ht, Decidable.not_not.1 heq]
 ·unfold f26_4
  have hi' : i = l1.length := by omega
  subst hi'
  refine ⟨?_, hm⟩
  rw [List.take_length, hlen, List.take_length] at ht
  rw [decide_eq_true ht]
def subL : List IN := [⟨1, 7, 0⟩, ⟨1, 2, 0⟩, ⟨7, 0, 0⟩]
def subM : Nat → MS Unit
 | 0 => MS.first 10 ()
 | n + 1 => (stepF noneM subL (subM n)).1
theorem Tld.same {p : Nat → Prop} {Sa : Nat → Addr} {w w' : World} (h : Tld p Sa w) (m : Same w w') : Tld p Sa w' := ⟨h.hL.same m, h.hr.same m, h.k12, h.k13, h.k14, h.k15⟩
theorem subM_ok : ∀ i, i < 3 → (stepF noneM subL (subM i)).2 = (true, 0) ∧ (subM i).good 3
 | 0, _ => ⟨rfl, by unfold MS.good; decide⟩ | 1, _ => ⟨rfl, by unfold MS.good; decide⟩ | 2, _ => ⟨rfl, by unfold MS.good; decide⟩ | n + 3, h => by omega
theorem subM_num : ∀ i, i < 3 → numL (subM i).st
 | 0, _ => fun v hv => absurd hv List.not_mem_nil
 | 1, _ => fun v hv => by have hv : v ∈ [(7 : Int)] := hv; rw [List.mem_singleton.1 hv]; unfold I64; decide
 | 2, _ => fun v hv => by have hv : v ∈ [(7 : Int), 2] := hv; simp only [List.mem_cons, List.not_mem_nil, or_false] at hv; unfold I64; rcases hv with rfl | rfl <;> decide
 | n + 3, h => by omega
theorem awake17_spec {p : Nat → Prop} {Sa : Nat → Addr} {w : World} (ht : Tld p Sa w) : Meets Tryz.prog 7 #[] w fun v w' => v = .bool true ∧ Same w w' := by
 refine f7_ok ?_
 unfold f7
 refine kbld_of (cs := nilH.cells) rfl ?_
 refine kbld_of (cs := (⟨1, 7, 0⟩ : IN).cells) rfl ?_
 refine kbld_of (cs := (⟨1, 2, 0⟩ : IN).cells) rfl ?_
 refine kbld_of (cs := (⟨7, 0, 0⟩ : IN).cells) rfl ?_
 refine kbldS_of (cs := subL.flatMap IN.cells) rfl fun w6 h6 hs6 hb6 => ?_
 refine kcall_of (mlNew nilH subL (SlIs.blk hb6 rfl) (by decide) 10) ?_
 rintro v w8 ⟨bM, rfl, hbM, h8, hM⟩
 have m8 := h6.trans h8
 have hM8 : MI nilH subL bM (fun _ => False) (noneI w) (newB w6 w8 fun _ => False) w8 (subM 0) := ⟨hM () (fun _ => False) (fun _ => False) (fun k hk => hk.elim), ⟨m8, fun k hk => hk.elim (fun hk => hk.elim) (fun hk => ⟨Nat.le_trans h6.size hk.1, hk.2⟩)⟩, fun k hk => hk.elim⟩
 rw [keq_ptr_nil ptMill]
 refine kB_at ?_
 refine kIf_F rfl ?_
 unfold f7_0
 refine kL1_of 3 (fun i x wr => (∃ X, MI nilH subL bM (fun _ => False) (noneI w) X wr (subM i)) ∧ x = .int .i64 i) ⟨lI1_0 ⟨⟨_, hM8⟩, rfl⟩, fun x wr hx => ?_⟩
 obtain ⟨i, hi, ⟨⟨X, hMi⟩, rfl⟩, hJ⟩ := lI1_step hx
 unfold f7_1
 refine lss_at ?_
 refine kB_at ?_
 refine kIf_dec (fun hlt => ?_) (fun hge => ?_)
 ·have hlt : i < 3 := by omega
  obtain ⟨e1, e2⟩ := subM_ok i hlt
  unfold f7_2
  refine kcall_of (mlStep ht (none_host w) hMi e2 (by decide) (fun x hx => by simp only [subL, List.mem_cons, List.not_mem_nil, or_false] at hx; unfold noneOk I64; rcases hx with rfl | rfl | rfl <;> decide) (Nat.zero_le _) (subM_num i hlt)) ?_
  rintro v w13 ⟨⟨e, rfl, he⟩, ⟨X', hM'⟩, _⟩
  rw [e1] at he
  rw [e1]
  have he : e = .nilIface := he
  subst he
  refine kext_at rfl ?_
  refine kext_at rfl ?_
  refine not_at ?_
  refine kB_at ?_
  refine kIf_T rfl ?_
  rw [keq_nil_nil' ifErr]
  unfold f7_3
  refine kB_at ?_
  refine kIf_F rfl ?_
  unfold f7_4
  refine add_at (by omega) (by omega) ?_
  rw [cast_succ]
  exact hJ _ _ hlt ⟨⟨X', hM'⟩, rfl⟩
 ·have : i = 3 := by omega
  subst this
  have mr := hMi.hi.1
  clear hJ hx
  unfold f7_5
  refine kbld_of (cs := nilH.cells) rfl ?_
  refine kbld_of (cs := (⟨20, 0, 0⟩ : IN).cells) rfl ?_
  refine kbldS_of (cs := [(⟨20, 0, 0⟩ : IN)].flatMap IN.cells) rfl fun w25 h25 hs25 hb25 => ?_
  have m25 := mr.trans h25
  refine kcall_of (nRun (l := [⟨20, 0, 0⟩]) (ht.same m25) (SlIs.blk hb25 rfl) (by decide) (fun x hx => by rw [List.mem_singleton.1 hx]; unfold noneOk I64; decide) 10 (n := 0) (k := 15) rfl rfl) ?_
  rintro v w27 ⟨⟨x1, rfl, hx1⟩, h27⟩
  have m27 := m25.trans h27
  refine kext_at rfl ?_
  refine kext_at rfl ?_
  refine kbld_of (cs := nilH.cells) rfl ?_
  refine kbld_of (cs := (⟨1, 0, 0⟩ : IN).cells) rfl ?_
  refine kbld_of (cs := (⟨35, 0, 0⟩ : IN).cells) rfl ?_
  refine kbld_of (cs := (⟨6, 0, 0⟩ : IN).cells) rfl ?_
  refine kbldS_of (cs := [(⟨1, 0, 0⟩ : IN), ⟨35, 0, 0⟩, ⟨6, 0, 0⟩].flatMap IN.cells) rfl fun w35 h35 hs35 hb35 => ?_
  have m35 := m27.trans h35
  refine kcall_of (nRun (l := [⟨1, 0, 0⟩, ⟨35, 0, 0⟩, ⟨6, 0, 0⟩]) (ht.same m35) (SlIs.blk hb35 rfl) (by decide) (fun x hx => by simp only [List.mem_cons, List.not_mem_nil, or_false] at hx; unfold noneOk I64; rcases hx with rfl | rfl | rfl <;> decide) 10 (n := 8) (k := 0) rfl rfl) ?_
  rintro v w37 ⟨⟨x2, rfl, hx2⟩, h37⟩
  have hx2 : x2 = .nilIface := hx2
  subst hx2
  have m37 := m35.trans h37
  refine kext_at rfl ?_
  refine kext_at rfl ?_
  refine kbld_of (cs := nilH.cells) rfl ?_
  refine kbld_of (cs := (⟨6, 0, 0⟩ : IN).cells) rfl ?_
  refine kbldS_of (cs := [(⟨6, 0, 0⟩ : IN)].flatMap IN.cells) rfl fun w43 h43 hs43 hb43 => ?_
  have m43 := m37.trans h43
  refine kcall_of (nRun (l := [⟨6, 0, 0⟩]) (ht.same m43) (SlIs.blk hb43 rfl) (by decide) (fun x hx => by rw [List.mem_singleton.1 hx]; unfold noneOk I64; decide) 10 (n := 10) (k := 12) rfl rfl) ?_
  rintro v w45 ⟨⟨x3, rfl, hx3⟩, h45⟩
  have m45 := m43.trans h45
  refine kext_at rfl ?_
  refine kext_at rfl ?_
  have hr45 : Same wr w45 := h25.trans (h27.trans (h35.trans (h37.trans (h43.trans h45))))
  have hM45 := hMi.ml.same hr45
  refine kcall_of (mlStack hM45 (by decide)) ?_
  rintro v w49 ⟨ho, _, h49⟩
  obtain ⟨a, m, c, rfl, hsl, hm1⟩ := ho.is
  have hm1 : m = [(5 : Int)].length := hm1 rfl
  subst hm1
  refine kbldS_of (cs := [.int .i64 5]) rfl fun w51 h51 hs51 hb51 => ?_
  have hsl : SlIs w49 a [(5 : Int)].length 1 ([(5 : Int)].map nV) := hsl
  refine kcall_of (sameI_spec (l1 := [5]) (l2 := [5]) (hsl.same h51) (SlIs.blk hb51 rfl) (by decide)) ?_
  rintro v w53 ⟨rfl, h53⟩
  have h53' := (h49.trans h51).trans h53
  have m53 := m45.trans h53'
  have hM53 := hM45.same h53'
  rw [decide_eq_true rfl]
  refine kB_at ?_
  refine kIf_T rfl ?_
  refine kcall_of (mlFuel hM53) ?_
  rintro v w56 ⟨rfl, rfl⟩
  refine eql_at ?_
  refine kB_at ?_
  refine kIf_T (decT (show (((subM 3).fuel : Nat) : Int) = 7 from rfl)) ?_
  refine kcall_of (mlOver hM53) ?_
  rintro v w60 ⟨rfl, h60⟩
  have m60 := m53.trans h60
  refine kB_at ?_
  refine kIf_T (show overF subL.length (subM 3) = true from rfl) ?_
  refine eql_at ?_
  refine kB_at ?_
  refine kIf_T rfl ?_
  have h60' := (h35.trans (h37.trans (h43.trans h45))).trans (h53'.trans h60)
  refine kld_err (ht.hL.same m60) (k := 15) ht.k15 rfl rfl ?_
  have hx60 : ErrX Sa 15 _ x1 w60 := (show ErrX Sa 15 _ x1 w27 from hx1).same h60'
  refine kcall_of (isX_spec (ht.hL.same m60) ht.k15 ht.k15 hx60) ?_
  rintro v w66 ⟨rfl, rfl⟩
  refine kB_at ?_
  refine kIf_T rfl ?_
  refine eql_at ?_
  refine kB_at ?_
  refine kIf_T rfl ?_
  rw [keq_nil_nil ifErr]
  refine kB_at ?_
  refine kIf_T rfl ?_
  refine kld_err (ht.hL.same m60) (k := 12) ht.k12 rfl rfl ?_
  have hz60 : ErrX Sa 12 _ x3 w66 := (show ErrX Sa 12 _ x3 w45 from hx3).same (h53'.trans h60)
  refine kcall_of (isX_spec (ht.hL.same m60) ht.k12 ht.k12 hz60) ?_
  rintro v w75 ⟨rfl, rfl⟩
  exact ⟨rfl, m60⟩
end
section
attribute [local irreducible] kO kB kStr kInt kN kG kIf kfld kld kldN kst knew kmap kbld kbldS kext kcnv klenStr klen kcap kprt kprtN kbool kint kstr keq kun ksl kix kiv kta kmk kmm ksem ksemU kextf kcallV kcallM kcall kL
structure WM (σ : Type) where
 get : σ → Int → Option Part
 res : σ → Int → Option Int
 fr : σ → Int
 set : σ → Int → Int → Int → σ
 asg : σ → Int → Int → σ
 dr : σ → Int → σ × Int
 add : σ → OrdM → σ
def cellF (q : Part) (i : Int) : Int := if i = 0 then q.v0 else if i = 1 then q.v1 else if i = 2 then q.v2 else q.v3
def loadF (g : Option Part) (i : Int) : Int := match g with
 | some q => if i < 0 ∨ 4 ≤ i then 0 else cellF q i
 | none => 0
def inpF (h : HC) (i : Int) : Int := if i < 0 ∨ 2 ≤ i then 0 else if i = 0 then h.i0 else h.i1
def ordF (h : HC) (x : IN) : OrdM :=
 if x.op = 31 then ⟨1, 0, (IntKind.u32.wrap x.a).toNat, 0⟩ else if x.op = 32 then ⟨2, h.who, 0, 0⟩ else if x.op = 33 then ⟨3, h.who, 0, x.a⟩ else ⟨4, h.who, 0, x.a⟩
def mkHost {σ : Type} (W : WM σ) (h : HC) : HostM σ where
 rd s x := if x.op = 1 then some x.a else if x.op = 22 then some (loadF (W.get s x.a) x.b) else if x.op = 24 then some (flagF (W.get s x.a).isSome)
  else if x.op = 25 then some (inpF h x.a) else if x.op = 26 then some ((W.res s x.a).getD 0) else if x.op = 29 then some h.who else if x.op = 30 then some (W.fr s) else none
 wr s x n := if x.op = 23 then W.set s x.a x.b n else if x.op = 27 then W.asg s x.a n else W.add s (ordF h x)
 dr := W.dr
structure WI {σ : Type} (W : WM σ) (h : HC) (w0 : World) (cost : σ → Nat) (I : (Nat → Prop) → World → σ → Prop) : Prop where
 base : ∀ {X w s}, I X w s → Same w0 w
 lt : ∀ {X w s}, I X w s → ∀ k, X k → w0.heap.size ≤ k ∧ k < w.heap.size
 loc : ∀ {X w w' s}, I X w s → Same w w' → I X w' s
 less : ∀ {X X' w s}, I X w s → (∀ k, X' k → X k) → I X' w s
 grow : ∀ {X fp w w' s}, I X w s → Mod fp w w' → (∀ k, fp k → X k) → I (newB w w' X) w' s
 get : ∀ {X w s} (c : Int), I X w s → I64 c → Meets Tryz.prog 185 #[.pointer h.wp, nV h.who, nV c] w fun v w' => (∃ q e, v = .tuple #[.agg q.cells.toArray, e] ∧ (W.get s c = some q ∧ e = .nilIface ∨ W.get s c = none ∧ ErrI e)) ∧ Same w w'
 res : ∀ {X w s} (i : Int), I X w s → Meets Tryz.prog 139 #[.pointer h.wp, nV i] w fun v w' => (∃ b : Bool, v = .tuple #[nV ((W.res s i).getD 0), .bool b]) ∧ Same w w'
 fr : ∀ {X w s}, I X w s → Meets Tryz.prog 140 #[.pointer h.wp] w fun v w' => v = nV (W.fr s) ∧ Same w w'
 set : ∀ {X w s} (c i n : Int), I X w s → I64 c → cost s ≤ 5000 → I64 n → Meets Tryz.prog 142 #[.pointer h.wp, nV h.who, nV c, nV i, nV n] w fun v w' => I X w' (W.set s c i n) ∧ Mod (fun k => w0.heap.size ≤ k ∧ ¬ X k) w w'
 asg : ∀ {X w s} (i n : Int), I X w s → cost s ≤ 5000 → I64 n → Meets Tryz.prog 143 #[.pointer h.wp, nV i, nV n] w fun v w' => I X w' (W.asg s i n) ∧ Mod (fun k => w0.heap.size ≤ k ∧ ¬ X k) w w'
 dr : ∀ {X w s} (n : Int), I X w s → cost s ≤ 5000 → I64 n → Meets Tryz.prog 141 #[.pointer h.wp, nV n] w fun v w' => (∃ e, v = .tuple #[nV (W.dr s n).2, e]) ∧ I X w' (W.dr s n).1 ∧ Mod (fun k => w0.heap.size ≤ k ∧ ¬ X k) w w'
 add : ∀ {X w s} (x : OrdM), I X w s → x.ok → cost s ≤ 5000 → Meets Tryz.prog 144 #[.pointer h.op, x.val] w fun v w' => I X w' (W.add s x) ∧ Mod (fun k => w0.heap.size ≤ k ∧ ¬ X k) w w'
 get64 : ∀ {X w s c q}, I X w s → W.get s c = some q → q.ok
 res64 : ∀ {X w s i v}, I X w s → W.res s i = some v → I64 v
 fr64 : ∀ {X w s}, I X w s → I64 (W.fr s)
 dr64 : ∀ s n, I64 (W.dr s n).2
 in64 : I64 h.i0 ∧ I64 h.i1 ∧ I64 h.who
 cset : ∀ s c i n, cost (W.set s c i n) ≤ cost s + 1
 casg : ∀ s i n, cost (W.asg s i n) ≤ cost s + 1
 cdr : ∀ s n, cost (W.dr s n).1 ≤ cost s + 1
 cadd : ∀ s x, cost (W.add s x) ≤ cost s + 1
def okIN (x : IN) : Prop := I64 x.a
section
variable {σ : Type} {W : WM σ} {h : HC} {w0 : World} {cost : σ → Nat} {I : (Nat → Prop) → World → σ → Prop} {X : Nat → Prop} {w : World} {s : σ} {b : Nat}
theorem HAt.same {w' : World} (hb : HAt h b w) (m : Same w w') : HAt h b w' := by
 obtain ⟨la, n, lc, pl, sv, fu, ov, hb⟩ := hb
 exact ⟨la, n, lc, pl, sv, fu, ov, m.get hb fun h => h⟩
theorem hPart (hW : WI W h w0 cost I) (hi : I X w s) (hb : HAt h b w) {c : Int} (hc : I64 c) : Meets Tryz.prog 138 #[.pointer (some ⟨b, 0, none⟩), nV c] w fun v w' => (∃ q, v = .tuple #[.agg q.cells.toArray, .bool (W.get s c).isSome] ∧ (W.get s c = some q ∨ W.get s c = none)) ∧ Same w w' := by
 refine f138_ok ?_
 unfold f138
 refine knew_of fun w2 h2 hs2 hb2 => ?_
 have m2 : Same w w2.drew := h2.drew
 have hb2 : blk w2.drew w.heap.size = _ := hb2
 generalize w2.drew = wd at *
 have hbd := hb.same m2
 obtain ⟨la, n, lc, pl, sv, fu, ov, hbd⟩ := hbd
 have hz2 : w.heap.size < wd.heap.size := lt_of_blk hb2
 have tail : ∀ (w1 : World) (bp : Nat) (q : Part) (e : Value), Same wd w1 → bp ≠ w.heap.size → blk w1 bp = some (.cells q.cells.toArray 49) → (W.get s c = some q ∧ e = .nilIface ∨ W.get s c = none ∧ ErrI e) → f138_0 (.pointer (some ⟨w.heap.size, 0, none⟩)) (.pointer (some ⟨bp, 0, none⟩)) e (fun v w' => (∃ q, v = .tuple #[.agg q.cells.toArray, .bool (W.get s c).isSome] ∧ (W.get s c = some q ∨ W.get s c = none)) ∧ Same w w') w1 := by
  intro w1 bp q e m hne hbp he
  unfold f138_0
  have md : Same w1 w1.drew := (Mod.refl (fun _ => False) _).drew
  have mm := m2.trans (m.trans md)
  have hbp := md.get hbp (fun h => h)
  have hb2 := (m.trans md).get hb2 (fun h => h)
  generalize w1.drew = wz at *
  refine kldN_at hbp rfl (by omega) ?_
  refine kG_of rfl ?_
  have keq : ∀ (wy : World) (K : Value → World → Prop), K (.bool (W.get s c).isSome) wy → keq Tryz.prog .eql 41 false true e .nilIface wy K := by
   intro wy K hK
   rcases he with ⟨hg, rfl⟩ | ⟨hg, ty, y, rfl⟩
   ·rw [keq_nil_nil ifErr]; rw [hg] at hK; exact hK
   ·rw [keq_if_nil ifErr]; rw [hg] at hK; exact hK
  refine keq _ _ ?_
  refine kG_of rfl ?_
  refine kst_of (vs := q.cells) hb2 rfl rfl rfl (by simp) (by simp [Part.cells]) fun w33 h33 hs33 hb33 => ?_
  have hb33 : blk w33 w.heap.size = some (.cells q.cells.toArray 49) := hb33
  refine kG_of (keq _ _ ⟨rfl, rfl⟩) ?_
  refine kldN_at hb33 rfl (by omega) ?_
  exact ⟨⟨q, rfl, he.imp (fun h => h.1) (fun h => h.1)⟩, mm.trans' (h33.mono fun k _ e => .inr (by omega))⟩
 refine ⟨?_, ?_⟩
 ·repeat (first | refine kN_at ?_ | refine kB_at ?_ | refine kfld_of ?_ | refine kext_at rfl ?_ | refine kld_at hbd rfl ?_ | refine kldN_at hbd rfl (by omega) ?_ | refine kG_of (by first | exact rfl | omega) ?_ | refine klen_at ?_ | refine eql_at ?_ | refine neq_at ?_ | refine lss_at ?_ | refine leq_at ?_ | refine gtr_at ?_ | refine geq_at ?_ | refine add_at (by omega) (by omega) ?_ | refine sub_at (by omega) (by omega) ?_ | refine not_at ?_ | refine kO_at ?_ | refine kprt_at rfl ?_ | refine kprtN_at rfl ?_ | refine kcap_at ?_ | refine klenStr_at ?_ | refine kN_iat ?_ | refine kN_fat ?_ | refine kIf_T (by first | exact rfl | exact decT (by omega) | exact notT (decF (by omega))) ?_ | refine kIf_F (by first | exact rfl | exact decF (by omega) | exact notF (decT (by omega))) ?_)
  refine kcall_of (hW.get c (hW.loc hi m2) hc) ?_
  rintro v w8 ⟨⟨q, e, rfl, he⟩, h8⟩
  refine knew_of fun w10 h10 hs10 hb10 => ?_
  have hb10' := (h8.trans h10).get hbd (fun h => h)
  refine kG_of (kld_at hb10' rfl ⟨rfl, rfl⟩) ?_
  refine kG_of (kld_at hb10' rfl ⟨rfl, rfl⟩) ?_
  refine kext_at rfl ?_
  refine kst_of (vs := q.cells) hb10 rfl rfl rfl (by simp) (by simp [Part.cells]) fun w12 h12 hs12 hb12 => ?_
  have hb12 : blk w12 w8.heap.size = some (.cells q.cells.toArray 49) := hb12
  refine kext_at rfl ?_
  have hz8 := h8.size
  exact tail _ _ q e (h8.trans (h10.trans' (h12.mono fun k _ e => .inr (by omega)))) (by omega) hb12 he
 ·refine knew_of fun w24 h24 hs24 hb24 => ?_
  have hb24' := h24.get hbd (fun h => h)
  refine kN_at ?_
  refine kfld_of ?_
  refine kld_at hb24' rfl ?_
  refine kG_of rfl ?_
  refine kG_of (kld_at hbd rfl ⟨rfl, rfl⟩) ?_
  refine kN_at ?_
  refine kfld_of ?_
  refine kld_at hb24' rfl ?_
  refine kG_of rfl ?_
  refine kG_of (kld_at hbd rfl ⟨rfl, rfl⟩) ?_
  refine kcall_of (hW.get c (hW.loc hi (m2.trans h24)) hc) ?_
  rintro v w30 ⟨⟨q, e, rfl, he⟩, h30⟩
  refine kext_at rfl ?_
  refine kst_of (vs := q.cells) (h30.get hb24 (fun h => h)) rfl rfl rfl (by simp) (by simp [Part.cells]) fun w12 h12 hs12 hb12 => ?_
  have hb12 : blk w12 wd.heap.size = some (.cells q.cells.toArray 49) := hb12
  refine kext_at rfl ?_
  exact tail _ _ q e ((h24.trans h30).trans' (h12.mono fun k _ e => .inr (by omega))) (by omega) hb12 he
theorem hLoad (hW : WI W h w0 cost I) (hi : I X w s) (hb : HAt h b w) {c : Int} (hc : I64 c) (i : Int) : Meets Tryz.prog 137 #[.pointer (some ⟨b, 0, none⟩), nV c, nV i] w fun v w' => v = nV (loadF (W.get s c) i) ∧ Same w w' := by
 refine f137_ok ?_
 unfold f137
 refine kcall_of (hPart hW hi hb hc) ?_
 rintro v w2 ⟨⟨q, rfl, hq⟩, h2⟩
 refine kext_at rfl ?_
 refine kext_at rfl ?_
 refine knew_of fun w6 h6 hs6 hb6 => ?_
 refine kst_of (vs := q.cells) hb6 rfl rfl rfl (by simp) (by simp [Part.cells]) fun w7 h7 hs7 hb7 => ?_
 have hb7 : blk w7 w2.heap.size = some (.cells q.cells.toArray 49) := hb7
 have m7 : Same w w7 := h2.trans (h6.trans' (h7.mono fun k _ e => .inr (by omega)))
 have zero : ∀ Q : PQ, Q (nV 0) w7 → f137_0 (nV i) (.pointer (some ⟨w2.heap.size, 0, none⟩)) (.bool true) Q w7 := by
  intro Q hQ
  unfold f137_0
  refine kB_at ?_
  exact kIf_T rfl hQ
 refine not_at ?_
 refine kB_at ?_
 rcases hq with hq | hq
 ·rw [hq]
  refine kIf_T rfl ?_
  have el : loadF (some q) i = if i < 0 ∨ 4 ≤ i then 0 else cellF q i := rfl
  rw [el]
  refine lss_at ?_
  refine kB_at ?_
  refine kIf_ndec (fun h0 => ?_) (fun h0 => zero _ ⟨by rw [if_pos (.inl h0)], m7⟩)
  refine geq_at ?_
  by_cases h4 : 4 ≤ i
  ·rw [decide_eq_true h4]
   exact zero _ ⟨by rw [if_pos (.inr h4)], m7⟩
  ·rw [decide_eq_false h4, if_neg (by omega)]
   unfold f137_0
   refine kB_at ?_
   refine kIf_F rfl ?_
   unfold f137_1
   refine kfld_of ?_
   unfold nV
   rw [kix_array]
   refine kG_of (by omega) ?_
   unfold cellF
   have hi4 : i = 0 ∨ i = 1 ∨ i = 2 ∨ i = 3 := by omega
   rcases hi4 with rfl | rfl | rfl | rfl
   ·exact kld_at hb7 rfl ⟨rfl, m7⟩
   ·exact kld_at hb7 rfl ⟨rfl, m7⟩
   ·exact kld_at hb7 rfl ⟨rfl, m7⟩
   ·exact kld_at hb7 rfl ⟨rfl, m7⟩
 ·rw [hq]
  refine kIf_F rfl ?_
  exact zero _ ⟨rfl, m7⟩
theorem hRead (hW : WI W h w0 cost I) (hi : I X w s) (hb : HAt h b w) {x : IN} (hx : okIN x) : Meets Tryz.prog 90 #[.pointer (some ⟨b, 0, none⟩), .agg x.cells.toArray] w fun v w' => v = .tuple #[nV (((mkHost W h).rd s x).getD 0), .bool ((mkHost W h).rd s x).isSome] ∧ Same w w' := by
 refine f90_ok ?_
 unfold f90
 refine knew_of fun w2 h2 hs2 hb2 => ?_
 have hb2 : blk w2 w.heap.size = some (.cells x.cells.toArray 88) := hb2
 have hi2 := hW.loc hi h2
 have hH2 := hb.same h2
 have er : (mkHost W h).rd s x = if x.op = 1 then some x.a else if x.op = 22 then some (loadF (W.get s x.a) x.b) else if x.op = 24 then some (flagF (W.get s x.a).isSome) else if x.op = 25 then some (inpF h x.a) else if x.op = 26 then some ((W.res s x.a).getD 0) else if x.op = 29 then some h.who else if x.op = 30 then some (W.fr s) else none := rfl
 rw [er]
 refine kfld_of ?_
 refine kld_of (v := .int .i64 x.op) hb2 rfl ?_
 refine eql_at ?_
 refine kB_at ?_
 refine kIf_dec (fun h1 => ?_) (fun h1 => ?_)
 ·rw [if_pos h1]
  refine kfld_of ?_
  refine kld_of (v := .int .i64 x.a) hb2 rfl ?_
  exact ⟨rfl, h2⟩
 rw [if_neg h1]
 refine eql_at ?_
 refine kB_at ?_
 refine kIf_dec (fun h1 => ?_) (fun h1 => ?_)
 ·rw [if_pos h1]
  refine kfld_of ?_
  refine kld_of (v := nV x.a) hb2 rfl ?_
  refine kfld_of ?_
  refine kld_of (v := nV x.b) hb2 rfl ?_
  refine kcall_of (hLoad hW hi2 hH2 hx x.b) ?_
  rintro v w6 ⟨rfl, h6⟩
  exact ⟨rfl, h2.trans h6⟩
 rw [if_neg h1]
 refine eql_at ?_
 refine kB_at ?_
 refine kIf_dec (fun h1 => ?_) (fun h1 => ?_)
 ·rw [if_pos h1]
  refine kfld_of ?_
  refine kld_of (v := nV x.a) hb2 rfl ?_
  refine kcall_of (hPart hW hi2 hH2 hx) ?_
  rintro v w6 ⟨⟨q, rfl, _⟩, h6⟩
  refine kext_at rfl ?_
  refine kext_at rfl ?_
  refine knew_of fun w8 h8 hs8 hb8 => ?_
  refine kst_of (vs := q.cells) hb8 rfl rfl rfl (by simp) (by simp [Part.cells]) fun w9 h9 hs9 hb9 => ?_
  refine kcall_of (flag_spec _ w9) ?_
  rintro v w10 ⟨rfl, rfl⟩
  exact ⟨rfl, h2.trans (h6.trans (h8.trans' (h9.mono fun k _ e => .inr (by omega))))⟩
 rw [if_neg h1]
 refine eql_at ?_
 refine kB_at ?_
 refine kIf_dec (fun h1 => ?_) (fun h1 => ?_)
 ·rw [if_pos h1]
  refine kfld_of ?_
  refine kld_of (v := .int .i64 x.a) hb2 rfl ?_
  refine lss_at ?_
  refine kB_at ?_
  refine kIf_ndec (fun h0 => ?_) (fun h0 => ?_)
  ·refine kfld_of ?_
   refine kld_of (v := .int .i64 x.a) hb2 rfl ?_
   refine geq_at ?_
   by_cases h4 : 2 ≤ x.a
   ·rw [decide_eq_true h4]
    unfold f90_0
    refine kB_at ?_
    refine kIf_T rfl ?_
    exact ⟨by unfold inpF; rw [if_pos (.inr h4)]; rfl, h2⟩
   ·rw [decide_eq_false h4]
    unfold f90_0
    refine kB_at ?_
    refine kIf_F rfl ?_
    unfold f90_1
    have m2 : Same w w2.drew := h2.drew
    obtain ⟨la, n, lc, pl, sv, fu, ov, hbd⟩ := hb.same m2
    have hb2 : blk w2.drew w.heap.size = some (.cells x.cells.toArray 88) := hb2
    generalize w2.drew = wd at *
    refine kfld_of ?_
    refine kld_of (v := .int .i64 x.a) hb2 rfl ?_
    refine kG_of rfl ?_
    refine kN_at ?_
    refine kfld_of ?_
    rw [kix_array]
    refine kG_of (by omega) ?_
    have ha : x.a = 0 ∨ x.a = 1 := by omega
    unfold inpF
    rw [if_neg (by omega)]
    rcases ha with ha | ha
    ·rw [ha]
     refine kld_at hbd rfl ?_
     refine kG_of rfl ?_
     exact ⟨rfl, m2⟩
    ·rw [ha]
     refine kld_at hbd rfl ?_
     refine kG_of rfl ?_
     exact ⟨rfl, m2⟩
  ·unfold f90_0
   refine kB_at ?_
   refine kIf_T rfl ?_
   exact ⟨by unfold inpF; rw [if_pos (.inl h0)]; rfl, h2⟩
 rw [if_neg h1]
 obtain ⟨la, n, lc, pl, sv, fu, ov, hbd⟩ := hH2
 refine eql_at ?_
 refine kB_at ?_
 refine kIf_dec (fun h1 => ?_) (fun h1 => ?_)
 ·rw [if_pos h1]
  have hbd' : blk w2.drew b = _ := hbd
  have hb2' : blk w2.drew w.heap.size = some (.cells x.cells.toArray 88) := hb2
  repeat (first | refine kN_at ?_ | refine kB_at ?_ | refine kfld_of ?_ | refine kext_at rfl ?_ | refine kld_at hbd' rfl ?_ | refine kldN_at hbd' rfl (by omega) ?_ | refine kG_of (by first | exact rfl | omega) ?_ | refine klen_at ?_ | refine eql_at ?_ | refine neq_at ?_ | refine lss_at ?_ | refine leq_at ?_ | refine gtr_at ?_ | refine geq_at ?_ | refine add_at (by omega) (by omega) ?_ | refine sub_at (by omega) (by omega) ?_ | refine not_at ?_ | refine kO_at ?_ | refine kprt_at rfl ?_ | refine kprtN_at rfl ?_ | refine kcap_at ?_ | refine klenStr_at ?_ | refine kN_iat ?_ | refine kN_fat ?_ | refine kIf_T (by first | exact rfl | exact decT (by omega) | exact notT (decF (by omega))) ?_ | refine kIf_F (by first | exact rfl | exact decF (by omega) | exact notF (decT (by omega))) ?_)
  refine kld_of (v := nV x.a) hb2' rfl ?_
  refine kG_of rfl ?_
  refine kcall_of (hW.res x.a (hW.loc hi h2.drew)) ?_
  rintro v w6 ⟨⟨bb, rfl⟩, h6⟩
  refine kext_at rfl ?_
  refine kext_at rfl ?_
  exact ⟨rfl, h2.drew.trans h6⟩
 rw [if_neg h1]
 refine eql_at ?_
 refine kB_at ?_
 refine kIf_dec (fun h1 => ?_) (fun h1 => ?_)
 ·rw [if_pos h1]
  refine kN_at ?_
  refine kfld_of ?_
  refine kld_at hbd rfl ?_
  exact ⟨rfl, h2⟩
 rw [if_neg h1]
 refine eql_at ?_
 refine kB_at ?_
 refine kIf_dec (fun h1 => ?_) (fun h1 => ?_)
 ·rw [if_pos h1]
  refine kN_at ?_
  refine kfld_of ?_
  refine kld_at hbd rfl ?_
  refine kcall_of (hW.fr hi2) ?_
  rintro v w6 ⟨rfl, h6⟩
  exact ⟨rfl, h2.trans h6⟩
 rw [if_neg h1]
 exact ⟨rfl, h2⟩
theorem hDraw (hW : WI W h w0 cost I) (hi : I X w s) (hb : HAt h b w) (hc : cost s ≤ 5000) (n : Int) (hn : I64 n) : Meets Tryz.prog 93 #[.pointer (some ⟨b, 0, none⟩), nV n] w fun v w' => v = nV (W.dr s n).2 ∧ I X w' (W.dr s n).1 ∧ Mod (fun k => w0.heap.size ≤ k ∧ ¬ X k) w w' := by
 obtain ⟨la, k, lc, pl, sv, fu, ov, hbd⟩ := hb
 refine f93_ok ?_
 unfold f93
 refine kN_at ?_
 refine kfld_of ?_
 refine kfld_of ?_
 refine kld_at hbd rfl ?_
 refine kcall_of (hW.dr n hi hc hn) ?_
 rintro v w6 ⟨⟨e, rfl⟩, h1, h2⟩
 refine kext_at rfl ?_
 refine kext_at rfl ?_
 exact ⟨rfl, h1, h2⟩
theorem ordF_ok (hwho : I64 h.who) {x : IN} (hx : okIN x) : (ordF h x).ok := by
 have z : I64 0 := by unfold I64; omega
 have u : ∀ n : Int, 0 ≤ n ∧ n ≤ 10 → I64 n := fun n hn => by unfold I64; omega
 unfold ordF OrdM.ok
 split
 ·refine ⟨u 1 (by omega), z, ?_, z⟩
  show (x.a % 4294967296).toNat < 4294967296
  omega
 ·split
  ·exact ⟨u 2 (by omega), hwho, by show (0 : Nat) < 4294967296; omega, z⟩
  ·split
   ·exact ⟨u 3 (by omega), hwho, by show (0 : Nat) < 4294967296; omega, hx⟩
   ·exact ⟨u 4 (by omega), hwho, by show (0 : Nat) < 4294967296; omega, hx⟩
theorem hWrite (hW : WI W h w0 cost I) (hi : I X w s) (hb : HAt h b w) {x : IN} (hx : okIN x) (ho : x.op = 23 ∨ x.op = 27 ∨ x.op = 31 ∨ x.op = 32 ∨ x.op = 33 ∨ x.op = 34) (hc : cost s ≤ 5000) (top : Int) (h64 : I64 top) :
  Meets Tryz.prog 94 #[.pointer (some ⟨b, 0, none⟩), .agg x.cells.toArray, nV top] w fun v w' => I X w' ((mkHost W h).wr s x top) ∧ Mod (fun k => w0.heap.size ≤ k ∧ ¬ X k) w w' := by
 have er : (mkHost W h).wr s x top = if x.op = 23 then W.set s x.a x.b top else if x.op = 27 then W.asg s x.a top else W.add s (ordF h x) := rfl
 rw [er]
 refine f94_ok ?_
 unfold f94
 refine knew_of fun w2 h2 hs2 hb2 => ?_
 obtain ⟨la, k, lc, pl, sv, fu, ov, hbd⟩ := hb.same h2
 refine kN_at ?_
 refine kfld_of ?_
 refine kld_at hbd rfl ?_
 refine kbld_of (cs := (⟨0, h.who, 0, 0⟩ : OrdM).cells) rfl ?_
 refine knew_of fun w7 h7 hs7 hb7 => ?_
 refine kst_of (vs := (⟨0, h.who, 0, 0⟩ : OrdM).cells) hb7 rfl rfl rfl (by simp) (by simp [OrdM.cells]) fun w8 h8 hs8 hb8 => ?_
 have hb8 : blk w8 w2.heap.size = some (.cells (⟨0, h.who, 0, 0⟩ : OrdM).cells.toArray 137) := hb8
 have h28 : Same w2 w8 := h7.trans' (h8.mono fun k _ e => .inr (by omega))
 have m8 := h2.trans h28
 have hb28 : blk w8 w.heap.size = some (.cells x.cells.toArray 88) := h28.get hb2 (fun h => h)
 have hz : w.heap.size ≠ w2.heap.size := by have := lt_of_blk hb2; omega
 have hbd8 := h28.get hbd (fun h => h)
 have m8d : Same w w8.drew := m8.drew
 have hb28d : blk w8.drew w.heap.size = some (.cells x.cells.toArray 88) := hb28
 have hbd8d : blk w8.drew b = _ := hbd8
 have hb8d : blk w8.drew w2.heap.size = some (.cells (⟨0, h.who, 0, 0⟩ : OrdM).cells.toArray 137) := hb8
 have md : Same w2 w8.drew := h28.drew
 clear h7 hb7 h8 hs8
 refine kfld_of ?_
 refine kld_of (v := .int .i64 x.op) hb28 rfl ?_
 refine eql_at ?_
 refine kB_at ?_
 refine kIf_dec (fun h1 => ?_) (fun h1 => ?_)
 ·rw [if_pos h1]
  generalize w8.drew = wd at *
  repeat (first | refine kN_at ?_ | refine kB_at ?_ | refine kfld_of ?_ | refine kext_at rfl ?_ | refine kld_at hbd8d rfl ?_ | refine kldN_at hbd8d rfl (by omega) ?_ | refine kG_of (by first | exact rfl | omega) ?_ | refine klen_at ?_ | refine eql_at ?_ | refine neq_at ?_ | refine lss_at ?_ | refine leq_at ?_ | refine gtr_at ?_ | refine geq_at ?_ | refine add_at (by omega) (by omega) ?_ | refine sub_at (by omega) (by omega) ?_ | refine not_at ?_ | refine kO_at ?_ | refine kprt_at rfl ?_ | refine kprtN_at rfl ?_ | refine kcap_at ?_ | refine klenStr_at ?_ | refine kN_iat ?_ | refine kN_fat ?_ | refine kIf_T (by first | exact rfl | exact decT (by omega) | exact notT (decF (by omega))) ?_ | refine kIf_F (by first | exact rfl | exact decF (by omega) | exact notF (decT (by omega))) ?_)
  refine kld_of (v := nV x.a) hb28d rfl ?_
  refine kG_of rfl ?_
  refine kfld_of ?_
  refine kld_of (v := nV x.b) hb28d rfl ?_
  refine kG_of rfl ?_
  refine kcall_of (hW.set x.a x.b top (hW.loc hi m8d) hx hc h64) ?_
  rintro v w6 ⟨h1, h2⟩
  exact ⟨h1, (Mod.of_same m8d).trans h2⟩
 rw [if_neg h1]
 refine eql_at ?_
 refine kB_at ?_
 refine kIf_dec (fun h2 => ?_) (fun h2 => ?_)
 ·rw [if_pos h2]
  generalize w8.drew = wd at *
  repeat (first | refine kN_at ?_ | refine kB_at ?_ | refine kfld_of ?_ | refine kext_at rfl ?_ | refine kld_at hbd8d rfl ?_ | refine kldN_at hbd8d rfl (by omega) ?_ | refine kG_of (by first | exact rfl | omega) ?_ | refine klen_at ?_ | refine eql_at ?_ | refine neq_at ?_ | refine lss_at ?_ | refine leq_at ?_ | refine gtr_at ?_ | refine geq_at ?_ | refine add_at (by omega) (by omega) ?_ | refine sub_at (by omega) (by omega) ?_ | refine not_at ?_ | refine kO_at ?_ | refine kprt_at rfl ?_ | refine kprtN_at rfl ?_ | refine kcap_at ?_ | refine klenStr_at ?_ | refine kN_iat ?_ | refine kN_fat ?_ | refine kIf_T (by first | exact rfl | exact decT (by omega) | exact notT (decF (by omega))) ?_ | refine kIf_F (by first | exact rfl | exact decF (by omega) | exact notF (decT (by omega))) ?_)
  refine kld_of (v := nV x.a) hb28d rfl ?_
  refine kG_of rfl ?_
  refine kcall_of (hW.asg x.a top (hW.loc hi m8d) hc h64) ?_
  rintro v w6 ⟨h1, h2⟩
  exact ⟨h1, (Mod.of_same m8d).trans h2⟩
 rw [if_neg h2]
 have hok := ordF_ok (h := h) hW.in64.2.2 hx
 have fin : ∀ wz : World, Same w2 wz ∨ Mod (fun k => k = w2.heap.size) w2 wz → blk wz w2.heap.size = some (.cells (ordF h x).cells.toArray 137) → f94_0 (.pointer (some ⟨b, 0, none⟩)) (.pointer (some ⟨w2.heap.size, 0, none⟩)) (fun v w' => I X w' (W.add s (ordF h x)) ∧ Mod (fun k => w0.heap.size ≤ k ∧ ¬ X k) w w') wz := by
  intro wz hm hbo
  have mz : Same w wz := by
   rcases hm with hm | hm
   ·exact ‹Same w w2›.trans hm
   ·exact ‹Same w w2›.trans' (hm.mono fun k _ e => .inr (by have := lt_of_blk hb2; omega))
  have mzd : Same w wz.drew := mz.drew
  obtain ⟨la, k, lc, pl, sv, fu, ov, hbz⟩ := hb.same mzd
  have hbo : blk wz.drew w2.heap.size = some (.cells (ordF h x).cells.toArray 137) := hbo
  unfold f94_0
  generalize wz.drew = wd at *
  repeat (first | refine kN_at ?_ | refine kB_at ?_ | refine kfld_of ?_ | refine kext_at rfl ?_ | refine kld_at hbz rfl ?_ | refine kldN_at hbz rfl (by omega) ?_ | refine kG_of (by first | exact rfl | omega) ?_ | refine klen_at ?_ | refine eql_at ?_ | refine neq_at ?_ | refine lss_at ?_ | refine leq_at ?_ | refine gtr_at ?_ | refine geq_at ?_ | refine add_at (by omega) (by omega) ?_ | refine sub_at (by omega) (by omega) ?_ | refine not_at ?_ | refine kO_at ?_ | refine kprt_at rfl ?_ | refine kprtN_at rfl ?_ | refine kcap_at ?_ | refine klenStr_at ?_ | refine kN_iat ?_ | refine kN_fat ?_ | refine kIf_T (by first | exact rfl | exact decT (by omega) | exact notT (decF (by omega))) ?_ | refine kIf_F (by first | exact rfl | exact decF (by omega) | exact notF (decT (by omega))) ?_)
  refine kldN_at hbo rfl (by omega) ?_
  refine kG_of rfl ?_
  refine kcall_of (hW.add (ordF h x) (hW.loc hi mzd) hok hc) ?_
  rintro v w6 ⟨h1, h2⟩
  exact ⟨h1, (Mod.of_same mzd).trans h2⟩
 have ofil : ∀ n : Int, (x.op = 33 ∧ n = 3 ∨ x.op = 34 ∧ n = 4) → ordF h x = ⟨n, h.who, 0, x.a⟩ := by
  intro n hn
  unfold ordF
  rw [if_neg (by omega), if_neg (by omega)]
  rcases hn with ⟨h, rfl⟩ | ⟨h, rfl⟩
  ·rw [if_pos h]
  ·rw [if_neg (by omega)]
 refine eql_at ?_
 refine kB_at ?_
 refine kIf_dec (fun h3 => ?_) (fun h3 => ?_)
 ·refine kfld_of ?_
  refine kld_of (v := .int .i64 x.a) hb28 rfl ?_
  rw [kcnv_int]
  have em : (.int .u32 (IntKind.u32.wrap x.a) : Value) = msk (IntKind.u32.wrap x.a).toNat := by
   have hp : 0 ≤ IntKind.u32.wrap x.a := by show 0 ≤ x.a % 4294967296; omega
   unfold msk
   rw [Int.toNat_of_nonneg hp]
  rw [em]
  have eo : ordF h x = ⟨1, 0, (IntKind.u32.wrap x.a).toNat, 0⟩ := by unfold ordF; rw [if_pos h3]
  refine kbld_of (cs := (ordF h x).cells) (by rw [eo]; rfl) ?_
  refine kst_of (vs := (ordF h x).cells) hb8 rfl rfl (by rw [eo]; rfl) (by simp [OrdM.cells]) (by simp [OrdM.cells]) fun w34 h34 hs34 hb34 => ?_
  exact fin w34 (.inr ((Mod.of_same h28).trans h34)) hb34
 refine eql_at ?_
 refine kB_at ?_
 refine kIf_dec (fun h3' => ?_) (fun h3' => ?_)
 ·have eo : ordF h x = ⟨2, h.who, 0, 0⟩ := by unfold ordF; rw [if_neg h3, if_pos h3']
  refine kfld_of ?_
  refine kst1_of hb8 rfl rfl (by simp [OrdM.cells]) fun w34 h34 hs34 hb34 => ?_
  exact fin w34 (.inr ((Mod.of_same h28).trans h34)) (by rw [eo]; exact hb34)
 have tl : ∀ n : Int, (x.op = 33 ∧ n = 3 ∨ x.op = 34 ∧ n = 4) → (kfld 1 (.pointer (some ⟨w.heap.size, 0, none⟩)) fun v44 => kld v44 w8.drew fun v45 => kG (w8.drew = w8.drew) <| kfld 0 (.pointer (some ⟨w2.heap.size, 0, none⟩)) fun v46 => kst 1 v46 (.int .i64 n) w8.drew fun w47 => kG (kld v44 w47 fun v50 => v50 = v45 ∧ w47 = w47) <| kfld 3 (.pointer (some ⟨w2.heap.size, 0, none⟩)) fun v48 => kst 1 v48 v45 w47 fun w49 => f94_0 (.pointer (some ⟨b, 0, none⟩)) (.pointer (some ⟨w2.heap.size, 0, none⟩)) (fun v w' => I X w' (W.add s (ordF h x)) ∧ Mod (fun k => w0.heap.size ≤ k ∧ ¬ X k) w w') w49) := by
  intro n hn
  have eo := ofil n hn
  generalize w8.drew = wd at *
  refine kfld_of ?_
  refine kld_of (v := .int .i64 x.a) hb28d rfl ?_
  refine kG_of rfl ?_
  refine kfld_of ?_
  refine kst1_of hb8d rfl rfl (by simp [OrdM.cells]) fun w47 h47 hs47 hb47 => ?_
  refine kG_of (kld_of (v := .int .i64 x.a) (h47.get hb28d hz) rfl ⟨rfl, rfl⟩) ?_
  refine kfld_of ?_
  refine kst1_of hb47 rfl rfl (by simp [OrdM.cells]) fun w49 h49 hs49 hb49 => ?_
  exact fin w49 (.inr ((Mod.of_same md).trans (h47.trans h49))) (by rw [eo]; exact hb49)
 refine eql_at ?_
 refine kB_at ?_
 refine kIf_dec (fun h3'' => ?_) (fun h3'' => ?_)
 ·exact tl 3 (.inl ⟨h3'', rfl⟩)
 refine eql_at ?_
 refine kB_at ?_
 refine kIf_T (decT (by omega)) ?_
 exact tl 4 (.inr ⟨by omega, rfl⟩)
theorem loadF64 {g : Option Part} (h : ∀ q, g = some q → q.ok) (i : Int) : I64 (loadF g i) := by
 cases g with
 | none => exact I64_0
 | some q =>
  obtain ⟨_, h0, h1, h2, h3, _⟩ := h q rfl
  exact ite_at (P := I64) (fun _ => I64_0) (fun _ => ite_at (P := I64) (fun _ => h0) (fun _ => ite_at (P := I64) (fun _ => h1) (fun _ => ite_at (P := I64) (fun _ => h2) (fun _ => h3))))
theorem host_of (hW : WI W h w0 cost I) : HostI (mkHost W h) h w0 okIN cost I where
 base := hW.base
 lt := hW.lt
 loc := hW.loc
 less := hW.less
 grow := hW.grow
 rdo s x hr := by
  unfold reads
  refine Classical.byContradiction fun hn => hr ?_
  show (if x.op = 1 then some x.a else if x.op = 22 then some (loadF (W.get s x.a) x.b) else if x.op = 24 then some (flagF (W.get s x.a).isSome) else if x.op = 25 then some (inpF h x.a) else if x.op = 26 then some ((W.res s x.a).getD 0) else if x.op = 29 then some h.who else if x.op = 30 then some (W.fr s) else none) = none
  rw [if_neg (by omega), if_neg (by omega), if_neg (by omega), if_neg (by omega), if_neg (by omega), if_neg (by omega), if_neg (by omega)]
 rdi s x _ hr := by
  unfold reads at hr
  show (if x.op = 1 then some x.a else if x.op = 22 then some (loadF (W.get s x.a) x.b) else if x.op = 24 then some (flagF (W.get s x.a).isSome) else if x.op = 25 then some (inpF h x.a) else if x.op = 26 then some ((W.res s x.a).getD 0) else if x.op = 29 then some h.who else if x.op = 30 then some (W.fr s) else none) ≠ none
  rcases hr with h | h | h | h | h | h | h <;> rw [h] <;> exact fun e => by cases e
 read hi hb hx := hRead hW hi hb hx
 write {_ _ _ _ _ top} hi hb _ hx ho hc h64 := hWrite hW hi hb hx ho hc top h64
 draw {_ _ _ _ _ n} hi hb _ _ _ hc hn := hDraw hW hi hb hc n hn
 rd64 {X w s x v} hi hok hv := by
  have hv : (if x.op = 1 then some x.a else if x.op = 22 then some (loadF (W.get s x.a) x.b) else if x.op = 24 then some (flagF (W.get s x.a).isSome) else if x.op = 25 then some (inpF h x.a) else if x.op = 26 then some ((W.res s x.a).getD 0) else if x.op = 29 then some h.who else if x.op = 30 then some (W.fr s) else none) = some v := hv
  have fin : ∀ {o : Option Int}, o = some v → (∀ u, o = some u → I64 u) → I64 v := fun e g => g v e
  refine fin hv ?_
  refine ite_at (P := fun o => ∀ u, o = some u → I64 u) (fun _ u e => by cases e; exact hok) (fun _ => ?_)
  refine ite_at (P := fun o => ∀ u, o = some u → I64 u) (fun _ u e => by cases e; exact loadF64 (fun q hq => hW.get64 hi hq) _) (fun _ => ?_)
  refine ite_at (P := fun o => ∀ u, o = some u → I64 u) (fun _ u e => by cases e; exact flagF64 _) (fun _ => ?_)
  refine ite_at (P := fun o => ∀ u, o = some u → I64 u) (fun _ u e => by cases e; exact ite_at (P := I64) (fun _ => I64_0) (fun _ => ite_at (P := I64) (fun _ => hW.in64.1) (fun _ => hW.in64.2.1))) (fun _ => ?_)
  refine ite_at (P := fun o => ∀ u, o = some u → I64 u) (fun _ u e => by
   cases e
   cases hr : W.res s x.a with
   | none => exact I64_0
   | some r => exact hW.res64 hi hr) (fun _ => ?_)
  refine ite_at (P := fun o => ∀ u, o = some u → I64 u) (fun _ u e => by cases e; exact hW.in64.2.2) (fun _ => ?_)
  refine ite_at (P := fun o => ∀ u, o = some u → I64 u) (fun _ u e => by cases e; exact hW.fr64 hi) (fun _ u e => by cases e)
 dr64 := hW.dr64
 costw s x n := by
  show cost (if x.op = 23 then W.set s x.a x.b n else if x.op = 27 then W.asg s x.a n else W.add s (ordF h x)) ≤ _
  split
  ·exact hW.cset _ _ _ _
  ·split
   ·exact hW.casg _ _ _
   ·exact hW.cadd _ _
 costd s n := hW.cdr s n
end
end
section
attribute [local irreducible] kO kB kStr kInt kN kG kIf kfld kld kldN kst knew kmap kbld kbldS kext kcnv klenStr klen kcap kprt kprtN kbool kint kstr keq kun ksl kix kiv kta kmk kmm ksem ksemU kextf kcallV kcallM kcall kL
def stepD (seed : Int) : Int := IntKind.i64.wrap (IntKind.u64.wrap (IntKind.u64.wrap seed + IntKind.u64.wrap (IntKind.u64.wrap 1 * 11400714819323198485)))
def mixD (z : Int) : Int :=
 let a := ixor .u64 z (ishr .u64 z 30)
 let b := IntKind.u64.wrap (a * 13787848793156543929)
 let c := ixor .u64 b (ishr .u64 b 27)
 let d := IntKind.u64.wrap (c * 10723151780598845931)
 ixor .u64 d (ishr .u64 d 31)
def drawD (seed n : Int) : Int × Int := (stepD seed, if n ≤ 0 then 0 else IntKind.i64.wrap ((mixD (IntKind.u64.wrap (stepD seed))).tmod (IntKind.u64.wrap n)))
theorem skip_spec (seed : Int) (w : World) : Meets Tryz.prog 234 #[nV seed, nV 1] w fun v w' => v = nV (stepD seed) ∧ w' = w := by
 refine f234_ok ?_
 unfold f234
 unfold nV
 rw [kcnv_int, kcnv_int, kint_mul, kint_add, kcnv_int]
 exact ⟨rfl, rfl⟩
theorem mix_spec (z : Int) (w : World) : Meets Tryz.prog 235 #[.int .u64 z] w fun v w' => v = .int .u64 (mixD z) ∧ w' = w := by
 refine f235_ok ?_
 unfold f235
 rw [kint_shr]
 refine kG_of (by decide) ?_
 rw [kint_xor, kint_mul, kint_shr]
 refine kG_of (by decide) ?_
 rw [kint_xor, kint_mul, kint_shr]
 refine kG_of (by decide) ?_
 rw [kint_xor]
 exact ⟨rfl, rfl⟩
theorem next_spec (seed : Int) (w : World) : Meets Tryz.prog 216 #[nV seed] w fun v w' => v = .tuple #[nV (stepD seed), .int .u64 (mixD (IntKind.u64.wrap (stepD seed)))] ∧ w' = w := by
 refine f216_ok ?_
 unfold f216
 refine kcall_of (skip_spec seed w) ?_
 rintro v w2 ⟨rfl, rfl⟩
 unfold nV
 rw [kcnv_int]
 refine kcall_of (mix_spec _ w2) ?_
 rintro v w2 ⟨rfl, rfl⟩
 exact ⟨rfl, rfl⟩
theorem drawD_spec (seed n : Int) (hn : I64 n) (w : World) : Meets Tryz.prog 187 #[nV seed, nV n] w fun v w' => v = .tuple #[nV (drawD seed n).1, nV (drawD seed n).2] ∧ Same w w' := by
 refine f187_ok ?_
 unfold f187
 refine kcall_of (next_spec seed w) ?_
 rintro v w2 ⟨rfl, rfl⟩
 unfold drawD
 refine kext_at rfl ?_
 refine kext_at rfl ?_
 unfold nV
 refine leq_at ?_
 refine kB_at ?_
 refine kIf_dec (fun h => ?_) (fun h => ?_)
 ·rw [if_pos h]
  exact ⟨rfl, Mod.refl _ _⟩
 ·unfold f187_0
  rw [if_neg h, kcnv_int, kint_rem]
  refine kG_of ?_ ?_
  ·have : IntKind.u64.wrap n = n := by
    show n % 18446744073709551616 = n
    have := hn.2
    omega
   omega
  rw [kcnv_int]
  exact ⟨rfl, (Mod.refl (fun _ => False) _).drew⟩
section
variable {c : WC} {w0 : World} {fx : Nat → Prop} {w : World} {S : SM} {t : Nat} {B : BdM}
theorem gLen (h : WdAt c w0 fx w S t B) : Meets Tryz.prog 215 #[.pointer (some ⟨c.bg, 0, none⟩)] w fun v w' => v = natV c.R.length ∧ w' = w := by
 have hb := h.gh
 obtain ⟨a, n, cc, e, hs, hn⟩ := h.go.is
 have hn : n = c.R.length := by simpa using hn rfl
 rw [e] at hb
 refine f215_ok ?_
 unfold f215
 rw [keq_ptr_nil ptGoo]
 refine kB_at ?_
 refine kIf_F rfl ?_
 unfold f215_0
 refine kN_at ?_
 refine kfld_of ?_
 refine kld_at hb rfl ?_
 refine klen_at ?_
 exact ⟨by rw [hn]; rfl, rfl⟩
def getR (R : List Int) (i : Int) : Option Int := if i < 0 ∨ (R.length : Int) ≤ i then none else R[i.toNat]?
theorem getR_in {R : List Int} {i : Int} (h0 : 0 ≤ i) (h1 : i < R.length) : getR R i = some (R[i.toNat]'(by omega)) := by
 unfold getR
 rw [if_neg (by omega), List.getElem?_eq_getElem (by omega)]
theorem gGet (h : WdAt c w0 fx w S t B) (i : Int) : Meets Tryz.prog 186 #[.pointer (some ⟨c.bg, 0, none⟩), nV i] w fun v w' => v = .tuple #[nV ((getR c.R i).getD 0), .bool (getR c.R i).isSome] ∧ w' = w := by
 refine f186_ok ?_
 unfold f186
 have out : ∀ Q : PQ, (i < 0 ∨ (c.R.length : Int) ≤ i) → Q (.tuple #[nV ((getR c.R i).getD 0), .bool (getR c.R i).isSome]) w → f186_0 (.pointer (some ⟨c.bg, 0, none⟩)) (nV i) (.bool true) Q w := by
  intro Q ho hQ
  have e : getR c.R i = none := if_pos ho
  rw [e] at hQ
  unfold f186_0
  refine kB_at ?_
  exact kIf_T rfl hQ
 refine lss_at ?_
 refine kB_at ?_
 refine kIf_ndec (fun h0 => ?_) (fun h0 => out _ (.inl h0) ⟨rfl, rfl⟩)
 refine kcall_of (gLen h) ?_
 rintro v w2 ⟨rfl, rfl⟩
 refine geq_at ?_
 by_cases h1 : (c.R.length : Int) ≤ i
 ·rw [decide_eq_true h1]
  exact out _ (.inr h1) ⟨rfl, rfl⟩
 ·rw [decide_eq_false h1]
  have e := getR_in (R := c.R) (i := i) (by omega) (by omega)
  rw [e]
  have hb := h.gh
  obtain ⟨a, n, cc, e, hs, hn⟩ := h.go.is
  have hn : n = c.R.length := by simpa using hn rfl
  subst hn
  rw [e] at hb
  unfold f186_0
  refine kB_at ?_
  refine kIf_F rfl ?_
  unfold f186_1
  refine kN_at ?_
  refine kfld_of ?_
  refine kld_at hb rfl ?_
  obtain ⟨k, rfl⟩ : ∃ k : Nat, i = (k : Int) := ⟨i.toNat, by omega⟩
  refine kixld_of (F := Value.int .i64) hs (by omega) rfl ?_
  exact ⟨rfl, rfl⟩
theorem wResource (h : WdAt c w0 fx w S t B) (i : Int) : Meets Tryz.prog 139 #[.pointer (some ⟨c.bw, 0, none⟩), nV i] w fun v w' => v = .tuple #[nV ((getR c.R i).getD 0), .bool (getR c.R i).isSome] ∧ w' = w := by
 refine f139_ok ?_
 unfold f139
 rw [keq_ptr_nil ptWor]
 refine kB_at ?_
 refine kIf_F rfl ?_
 unfold f139_0
 refine kN_at ?_
 refine kfld_of ?_
 refine kld_at h.here rfl ?_
 refine kcall_of (gGet h i) ?_
 rintro v w2 ⟨rfl, rfl⟩
 refine kext_at rfl ?_
 refine kext_at rfl ?_
 exact ⟨rfl, rfl⟩
theorem WdAt.tune (h : WdAt c w0 fx w S t B) {w' : World} {R : List Int} {frame seed : Int} {gn : Value} (hgn : ∃ n : Int, gn = .int .i64 n) {fp : Nat → Prop} (m : Mod fp w w') (hf : ∀ k, fp k → k = c.bw ∨ k = c.bg ∨ vblk c.gs k)
  (hb : blk w' c.bw = some (.cells ({ c with R := R, frame := frame, seed := seed, gn := gn } : WC).cells 106)) (hg : blk w' c.bg = some (.cells #[c.gm, c.gs, gn] 202)) (ho : Own w' c.gs 1 (R.map (Value.int .i64))) :
  WdAt { c with R := R, frame := frame, seed := seed, gn := gn } w0 fx w' S t B ∧ Mod (fun k => w0.heap.size ≤ k ∧ c.mine k) w w' := by
 have hm : ∀ k, fp k → c.mine k := fun k hk => by
  rcases hf k hk with e | e | e
  ·exact .inl e
  ·exact .inr (.inr (.inl e))
  ·exact .inr (.inr (.inr e))
 have hA := (h.A.other m (fun k hk => h.fm k (hm k hk))).less (fx' := fx) (fun k hk => .inl hk)
 obtain ⟨a1, a2, a3⟩ := h.ap
 refine ⟨⟨hb, h.fm, h.comps.mod m (fun k f e hk => ?_), hg, ho, h.rvc, h.good, h.rl, hA, h.link, h.cs, hgn, h.ap⟩, m.mono fun k _ hk => ⟨(h.A.lt (h.fm k (hm k hk))).1, hm k hk⟩⟩
 rcases hf k hk with hk | hk | hk
 ·exact (a3 k f e).2 hk
 ·exact (a3 k f e).1 hk
 ·exact (a1 k hk).2.2 f e
def WC.tune (c : WC) (R : List Int) (frame seed : Int) (gn : Value) : WC := { c with R := R, frame := frame, seed := seed, gn := gn }
theorem wDraw (h : WdAt c w0 fx w S t B) (n : Int) (hn : I64 n) : Meets Tryz.prog 141 #[.pointer (some ⟨c.bw, 0, none⟩), nV n] w fun v w' => v = .tuple #[nV (drawD c.seed n).2, .nilIface] ∧ WdAt (c.tune c.R c.frame (drawD c.seed n).1 c.gn) w0 fx w' S t B ∧ Mod (fun k => w0.heap.size ≤ k ∧ c.mine k) w w' := by
 refine f141_ok ?_
 unfold f141
 rw [keq_ptr_nil ptWor]
 refine kB_at ?_
 refine kIf_F rfl ?_
 unfold f141_0
 refine kN_at ?_
 refine kfld_of ?_
 refine kld_at h.here rfl ?_
 refine kbld_of (cs := [.int .i64 8, .int .i64 0, .int .i64 0, .int .i64 0, .int .i64 0, .int .i64 0, .int .i64 0, .int .i64 0, .slice none 0 0, .int .i64 0, .int .i64 c.seed]) rfl ?_
 refine kcall_of (wNote h.here _) ?_
 rintro v w10 ⟨rfl, h10⟩
 have hb10 := h10.get h.here (fun h => h)
 refine kN_at ?_
 refine kfld_of ?_
 refine kld_at hb10 rfl ?_
 refine kcall_of (drawD_spec c.seed n hn w10) ?_
 rintro v w14 ⟨rfl, h14⟩
 refine kext_at rfl ?_
 refine kext_at rfl ?_
 have m14 := h10.trans h14
 have h' := h.loc m14
 unfold nV
 refine kN_at ?_
 refine kfld_of ?_
 refine kst1_of h'.here rfl rfl (by show 7 < 9; omega) fun w18 h18 hs18 hb18 => ?_
 obtain ⟨a1, a2, a3⟩ := h.ap
 have hw := h'.tune (R := c.R) (frame := c.frame) (seed := (drawD c.seed n).1) (gn := c.gn) h.gi h18 (fun k hk => .inl hk) hb18 (h18.get h'.gh a2) (h'.go.mod h18 fun k hk e => (a1 k hk).2.1 e)
 exact ⟨rfl, hw.1, (Mod.of_same m14).trans hw.2⟩
theorem wTick (h : WdAt c w0 fx w S t B) (hf : 0 ≤ c.frame) (hlt : c.frame < 1073741824) : Meets Tryz.prog 37 #[.pointer (some ⟨c.bw, 0, none⟩)] w fun v w' => v = .nilIface ∧ WdAt (c.tune c.R (c.frame + 1) c.seed c.gn) w0 fx w' S t B ∧ Mod (fun k => w0.heap.size ≤ k ∧ c.mine k) w w' := by
 refine f37_ok ?_
 unfold f37
 rw [keq_ptr_nil ptWor]
 refine kB_at ?_
 refine kIf_F rfl ?_
 refine kN_at ?_
 refine kfld_of ?_
 refine kld_at h.here rfl ?_
 refine geq_at ?_
 refine kB_at ?_
 refine kIf_F (decF (by omega)) ?_
 unfold f37_0
 refine kN_at ?_
 refine kfld_of ?_
 refine kld_at h.here rfl ?_
 refine kbld_of (cs := [.int .i64 9, .int .i64 0, .int .i64 0, .int .i64 0, .int .i64 0, .int .i64 0, .int .i64 0, .int .i64 0, .slice none 0 0, .int .i64 0, .int .i64 c.frame]) rfl ?_
 refine kcall_of (wNote h.here _) ?_
 rintro v w10 ⟨rfl, h10⟩
 have h' := h.loc h10
 refine kN_at ?_
 refine kfld_of ?_
 refine kld_at h'.here rfl ?_
 refine add_at (by omega) (by omega) ?_
 refine kN_at ?_
 refine kfld_of ?_
 refine kst1_of h'.here rfl rfl (by show 6 < 9; omega) fun w18 h18 hs18 hb18 => ?_
 obtain ⟨a1, a2, a3⟩ := h.ap
 have hw := h'.tune (R := c.R) (frame := c.frame + 1) (seed := c.seed) (gn := c.gn) h.gi h18 (fun k hk => .inl hk) hb18 (h18.get h'.gh a2) (h'.go.mod h18 fun k hk e => (a1 k hk).2.1 e)
 exact ⟨rfl, hw.1, (Mod.of_same h10).trans hw.2⟩
end
end
section
attribute [local irreducible] kO kB kStr kInt kN kG kIf kfld kld kldN kst knew kmap kbld kbldS kext kcnv klenStr klen kcap kprt kprtN kbool kint kstr keq kun ksl kix kiv kta kmk kmm ksem ksemU kextf kcallV kcallM kcall kL
section
variable {pr : Nat → Prop} {Sa : Nat → Addr} {c : WC} {w0 : World} {fx : Nat → Prop} {w : World} {S : SM} {t : Nat} {B : BdM}
def setR (R : List Int) (i n : Int) : List Int := if i < 0 ∨ (R.length : Int) ≤ i then R else R.set i.toNat n
theorem gWrong {k lo : Nat} {x : Value} {w : World} (h : ErrX Sa k lo x w) (hlo : lo ≤ w.heap.size) : Meets Tryz.prog 110 #[x] w fun v w' => ErrX Sa k lo v w' ∧ Same w w' := by
 refine f110_ok ?_
 unfold f110
 refine kcall_of (atX_spec _ h hlo) ?_
 rintro v w' ⟨h1, h2⟩
 exact ⟨h1, h2⟩
theorem gSet_out (hL : LaidP pr Sa w0) (h7 : pr 7) (h : WdAt c w0 fx w S t B) {i : Int} (ho : i < 0 ∨ (c.R.length : Int) ≤ i) (n : Int) :
  Meets Tryz.prog 190 #[.pointer (some ⟨c.bg, 0, none⟩), nV i, nV n] w fun v w' => (∃ e, v = .tuple #[nV 0, e] ∧ ErrX Sa 7 w.heap.size e w') ∧ Same w w' := by
 have e : getR c.R i = none := if_pos ho
 refine f190_ok ?_
 unfold f190
 refine kcall_of (gGet h i) ?_
 rintro v w2 ⟨rfl, rfl⟩
 rw [e]
 refine kext_at rfl ?_
 refine kext_at rfl ?_
 rw [keq_ptr_nil ptGoo]
 refine kB_at ?_
 refine kIf_F rfl ?_
 refine not_at ?_
 refine kB_at ?_
 refine kIf_T rfl ?_
 refine kld_err (hL.same h.A.same0) h7 rfl rfl ?_
 refine kcall_of (gWrong (ErrX.sent Sa 7 w2.heap.size w2) (Nat.le_refl _)) ?_
 rintro v w4 ⟨hE, h4⟩
 exact ⟨⟨_, rfl, hE⟩, h4⟩
theorem gSet_in (h : WdAt c w0 fx w S t B) {k : Nat} (hk : k < c.R.length) (n : Int) :
  Meets Tryz.prog 190 #[.pointer (some ⟨c.bg, 0, none⟩), nV k, nV n] w fun v w' => (∃ was, v = .tuple #[nV was, .nilIface]) ∧ ∃ gn, (∃ z : Int, gn = .int .i64 z) ∧ Mod (fun j => j = c.bg ∨ vblk c.gs j) w w' ∧ blk w' c.bg = some (.cells #[c.gm, c.gs, gn] 202) ∧ Own w' c.gs 1 ((c.R.set k n).map (Value.int .i64)) := by
 have e := getR_in (R := c.R) (i := (k : Int)) (by omega) (by omega)
 obtain ⟨z, hz⟩ := h.gi
 obtain ⟨a1, a2, a3⟩ := h.ap
 have hb := h.gh
 obtain ⟨bc, m, cp, arr, ty, hgs, hbc, hl1, hl2, hl3, hl4, hl5⟩ := h.go.view (by intro e; have := congrArg List.length e; simp at this; rw [this] at hk; cases hk)
 have hm : m = c.R.length := by simpa using hl1.symm
 have hv : vblk c.gs bc := ⟨0, m, cp, hgs⟩
 refine f190_ok ?_
 unfold f190
 refine kcall_of (gGet h k) ?_
 rintro v w2 ⟨rfl, rfl⟩
 rw [e]
 refine kext_at rfl ?_
 refine kext_at rfl ?_
 rw [keq_ptr_nil ptGoo]
 refine kB_at ?_
 refine kIf_F rfl ?_
 refine not_at ?_
 refine kB_at ?_
 refine kIf_F rfl ?_
 unfold f190_0
 refine kN_at ?_
 refine kfld_of ?_
 rw [hgs] at hb
 refine kld_at hb rfl ?_
 unfold nV
 rw [kix_slice]
 refine kG_of (by omega) ?_
 rw [add_mk]
 refine kst_of (o := 0 + k * 1) (vs := [.int .i64 n]) hbc rfl rfl rfl (by simp; omega) (by simp) fun w17 h17 hs17 hb17 => ?_
 have hb17' := h17.get hb (fun e => (a1 bc hv).1 e.symm)
 rw [hz] at hb17'
 refine kN_at ?_
 refine kfld_of ?_
 refine kld_at hb17' rfl ?_
 rw [kint_add]
 refine kN_at ?_
 refine kfld_of ?_
 refine kst1_of hb17' rfl rfl (by show 2 < 3; omega) fun w22 h22 hs22 hb22 => ?_
 have hb22 : blk w22 c.bg = some (.cells #[c.gm, .slice (some ⟨bc, 0, none⟩) m cp, .int .i64 (IntKind.i64.wrap (z + 1))] 202) := hb22
 have ho := h.go
 rw [hgs] at ho
 rw [hgs]
 rw [Nat.zero_add, Nat.mul_one] at hb17
 refine ⟨⟨_, rfl⟩, _, ⟨_, rfl⟩, (h17.mono fun j _ e => .inr ⟨0, m, cp, by rw [e]⟩).trans (h22.mono fun j _ e => .inl e), hb22, ?_⟩
 have := (ho.set1 hbc hb17 (by simpa using hk)).mod h22 fun j hj e => (a1 j (hgs ▸ hj)).1 e
 rw [List.map_set]
 exact this
theorem wAssign (hL : LaidP pr Sa w0) (h7 : pr 7) (h : WdAt c w0 fx w S t B) (i n : Int) : Meets Tryz.prog 143 #[.pointer (some ⟨c.bw, 0, none⟩), nV i, nV n] w fun v w' => ∃ gn, WdAt (c.tune (setR c.R i n) c.frame c.seed gn) w0 fx w' S t B ∧ Mod (fun k => w0.heap.size ≤ k ∧ c.mine k) w w' := by
 unfold setR
 refine f143_ok ?_
 unfold f143
 rw [keq_ptr_nil ptWor]
 refine kB_at ?_
 refine kIf_F rfl ?_
 unfold f143_0
 refine kN_at ?_
 refine kfld_of ?_
 refine kld_at h.here rfl ?_
 by_cases ho : i < 0 ∨ (c.R.length : Int) ≤ i
 ·rw [if_pos ho]
  refine kcall_of (gSet_out hL h7 h ho n) ?_
  rintro v w9 ⟨⟨e, rfl, hE⟩, h9⟩
  refine kext_at rfl ?_
  refine kext_at rfl ?_
  obtain ⟨ty, y, rfl⟩ := hE.if
  rw [keq_if_nil' ifErr]
  refine kB_at ?_
  refine kIf_T rfl ?_
  refine kcall_of (wWrong hE h9.size) ?_
  rintro v w15 ⟨_, h15⟩
  exact ⟨c.gn, h.loc (h9.trans h15), Mod.of_same (h9.trans h15)⟩
 ·rw [if_neg ho]
  obtain ⟨k, rfl⟩ : ∃ k : Nat, i = (k : Int) := ⟨i.toNat, by omega⟩
  rw [Int.toNat_natCast]
  obtain ⟨a1, a2, a3⟩ := h.ap
  refine kcall_of (gSet_in h (k := k) (by omega) n) ?_
  rintro v w9 ⟨⟨was, rfl⟩, gn, hgn, h9, hb9, ho9⟩
  have hh9 := h9.get h.here (fun e => by
   rcases e with e | e
   ·exact a2 e.symm
   ·exact (a1 _ e).2.1 rfl)
  refine kext_at rfl ?_
  refine kext_at rfl ?_
  rw [keq_nil_nil' ifErr]
  refine kB_at ?_
  refine kIf_F rfl ?_
  unfold f143_1
  refine kbld_of (cs := [.int .i64 6, .int .i64 0, .int .i64 0, .int .i64 0, .int .i64 0, .int .i64 0, .int .i64 0, .int .i64 0, .slice none 0 0, .int .i64 k, nV was]) rfl ?_
  refine kcall_of (wNote hh9 _) ?_
  rintro v w18 ⟨rfl, h18⟩
  have hw := h.tune (R := c.R.set k n) (frame := c.frame) (seed := c.seed) (gn := gn) hgn (h9.trans (Mod.of_same h18)) (fun j hj => .inr hj) (h18.get hh9 (fun h => h)) (h18.get hb9 (fun h => h)) (ho9.same h18)
  exact ⟨gn, hw.1, hw.2⟩
theorem wGet_dead (hL : LaidP pr Sa w0) (h17 : pr 17) (h : WdAt c w0 fx w S t B) {x : Int} (hf : B.l.find? (fun z => decide (((z.1 : Nat) : Int) = x)) = none) (n : Value) :
  Meets Tryz.prog 185 #[.pointer (some ⟨c.bw, 0, none⟩), .int .i64 x, n] w fun v w' => (∃ e, v = .tuple #[.agg (⟨0, 0, 0, 0, 0, 0⟩ : Part).cells.toArray, e] ∧ ErrI e) ∧ Same w w' := by
 refine f185_ok ?_
 unfold f185
 refine knew_of fun w2 h2 hs2 hb2 => ?_
 refine kcall_of (wEntity_no hL h17 (h.loc h2) hf) ?_
 rintro v w4 ⟨⟨e, rfl, hE⟩, h4⟩
 unfold entV
 refine kext_at rfl ?_
 refine kext_at rfl ?_
 refine knew_of fun w8 h8 hs8 hb8 => ?_
 refine kst_of (vs := [.int .i64 0, .int .i64 0]) hb8 rfl rfl rfl (by simp) (by simp) fun w9 h9 hs9 hb9 => ?_
 have m9 : Same w4 w9 := h8.trans' (h9.mono fun k _ e => .inr (by omega))
 have m29 := h4.trans m9
 have hb29 := m29.get hb2 (fun h => h)
 obtain ⟨ty, y, rfl⟩ := hE.if
 rw [keq_if_nil' ifErr]
 refine kB_at ?_
 refine kIf_T rfl ?_
 refine kbld_of (cs := (⟨0, 0, 0, 0, 0, 0⟩ : Part).cells) rfl ?_
 refine kst_of (vs := (⟨0, 0, 0, 0, 0, 0⟩ : Part).cells) hb29 rfl rfl rfl (by simp [Part.cells]) (by simp [Part.cells]) fun w12 h12 hs12 hb12 => ?_
 have hb12 : blk w12 w.heap.size = some (.cells (⟨0, 0, 0, 0, 0, 0⟩ : Part).cells.toArray 49) := hb12
 refine kldN_at hb12 rfl (by omega) ?_
 exact ⟨⟨_, rfl, _, _, rfl⟩, (h2.trans m29).trans' (h12.mono fun k _ e => .inr (by omega))⟩
theorem wSet_dead (hL : LaidP pr Sa w0) (h17 : pr 17) (h : WdAt c w0 fx w S t B) {x : Int} (hf : B.l.find? (fun z => decide (((z.1 : Nat) : Int) = x)) = none) (a b d : Value) :
  Meets Tryz.prog 142 #[.pointer (some ⟨c.bw, 0, none⟩), .int .i64 x, a, b, d] w fun v w' => Same w w' := by
 refine f142_ok ?_
 unfold f142
 refine kcall_of (wEntity_no hL h17 h hf) ?_
 rintro v w4 ⟨⟨e, rfl, hE⟩, h4⟩
 unfold entV
 refine kext_at rfl ?_
 refine kext_at rfl ?_
 refine knew_of fun w8 h8 hs8 hb8 => ?_
 refine kst_of (vs := [.int .i64 0, .int .i64 0]) hb8 rfl rfl rfl (by simp) (by simp) fun w9 h9 hs9 hb9 => ?_
 have m9 : Same w4 w9 := h8.trans' (h9.mono fun k _ e => .inr (by omega))
 obtain ⟨ty, y, rfl⟩ := hE.if
 rw [keq_if_nil' ifErr]
 refine kB_at ?_
 refine kIf_T rfl ?_
 exact h4.trans m9
end
end
section
attribute [local irreducible] kO kB kStr kInt kN kG kIf kfld kld kldN kst knew kmap kbld kbldS kext kcnv klenStr klen kcap kprt kprtN kbool kint kstr keq kun ksl kix kiv kta kmk kmm ksem ksemU kextf kcallV kcallM kcall kL
theorem oAdd_nobody {pr : Nat → Prop} {Sa : Nat → Addr} {w : World} (hL : LaidP pr Sa w) (h2 : pr 2) (x : OrdM) :
  Meets Tryz.prog 144 #[.pointer none, x.val] w fun v w' => ErrX Sa 2 w.heap.size v w' ∧ Same w w' := by
 unfold OrdM.val
 refine f144_ok ?_
 unfold f144
 refine knew_of fun w2 hm2 hs2 hb2 => ?_
 rw [keq_ptr_nil ptOrd]
 refine kB_at ?_
 refine kIf_T rfl ?_
 refine kld_err (hL.same hm2) h2 rfl rfl ?_
 refine kcall_of (oWrong (ErrX.sent Sa 2 w.heap.size w2) (by omega)) ?_
 rintro v w5 ⟨hE, h5⟩
 exact ⟨hE, hm2.trans h5⟩
structure NB where
 R : List Int
 seed : Int
 l : List OrdM
 gv : Nat
 dr : Nat
def nbAdd (og : Bool) (n most : Nat) (s : NB) (x : OrdM) : NB :=
 if og = true then (if x.fit n then (if most ≤ s.gv then { s with dr := s.dr + 1 } else { s with l := s.l ++ [x], gv := s.gv + 1 }) else s) else s
def nbW (og : Bool) (n most : Nat) (frame : Int) : WM NB where
 get _ _ := none
 res s i := getR s.R i
 fr _ := frame
 set s _ _ _ := s
 asg s i n := { s with R := setR s.R i n }
 dr s n := ({ s with seed := (drawD s.seed n).1 }, (drawD s.seed n).2)
 add := nbAdd og n most
structure NbI (c0 : WC) (w0 : World) (o : OC) (S : SM) (t : Nat) (B : BdM) (X : Nat → Prop) (w : World) (s : NB) : Prop where
 pr : ∃ gn, Pair (c0.tune s.R c0.frame s.seed gn) w0 o X w S t B s.l s.gv s.dr
 ap : ∀ k, X k → ¬ c0.mine k
 num : numL s.R
 few : s.l.length ≤ s.gv
theorem Pair.tune {c c' : WC} {w0 : World} {o : OC} {X fx U : Nat → Prop} {w w' : World} {S : SM} {t : Nat} {B : BdM} {l : List OrdM} {gv dr : Nat} (h0 : 0 < o.L.length) (hO : OAt o U w l gv dr) (hU : ∀ k, U k → fx k ∧ ¬ X k ∧ ¬ c.mine k) (hX : ∀ k, X k → fx k) (hap : ∀ k, X k → ¬ c.mine k)
  (hmi : c'.mine = c.mine) (hW' : WdAt c' w0 fx w' S t B) (m : Mod (fun k => w0.heap.size ≤ k ∧ c.mine k) w w') : Pair c' w0 o X w' S t B l gv dr ∧ Mod (fun k => w0.heap.size ≤ k ∧ ¬ X k) w w' :=
 ⟨⟨⟨fx, U, hW', hO.mod m (fun k hk hn => (hU k hk).2.2 hn.2), by rw [hmi]; exact hU, hX⟩, h0⟩, m.mono fun k _ hk => ⟨hk.1, fun hx => hap k hx hk.2⟩⟩
theorem setR64 {R : List Int} (h : numL R) (i : Int) {n : Int} (hn : I64 n) : numL (setR R i n) := by
 unfold setR
 split
 ·exact h
 ·intro v hv
  rcases List.mem_or_eq_of_mem_set hv with hv | hv
  ·exact h v hv
  ·rw [hv]; exact hn
theorem drawD64 (seed n : Int) : I64 (drawD seed n).2 := ite_at (P := I64) (fun _ => I64_0) (fun _ => wrap64 _)
def nbH (c0 : WC) (o : OC) (og : Bool) (i0 i1 who : Int) : HC := ⟨some ⟨c0.bw, 0, none⟩, if og = true then some ⟨o.bo, 0, none⟩ else none, i0, i1, who⟩
def nbCost (s : NB) : Nat := s.dr + s.gv
theorem nb_host {pr : Nat → Prop} {Sa : Nat → Addr} {c0 : WC} {w0 : World} (hL : LaidP pr Sa w0) (h1 : pr 1) (h2 : pr 2) (h6 : pr 6) (h7 : pr 7) (h17 : pr 17) {o : OC} {S : SM} {t : Nat} {B : BdM} (og : Bool) {i0 i1 who : Int} (hi0 : I64 i0) (hi1 : I64 i1) (hwho : I64 who)
  (hdead : B.l.find? (fun z => decide (((z.1 : Nat) : Int) = who)) = none) (hmo : o.most ≤ 1000000) (hfr : I64 c0.frame) :
  WI (nbW og o.L.length o.most c0.frame) (nbH c0 o og i0 i1 who) w0 nbCost (NbI c0 w0 o S t B) where
 base h := by obtain ⟨gn, hP⟩ := h.pr; exact hP.same0
 lt h := by obtain ⟨gn, hP⟩ := h.pr; exact fun k hk => hP.lt hk
 loc h m := by obtain ⟨gn, hP⟩ := h.pr; exact ⟨⟨gn, hP.loc m⟩, h.ap, h.num, h.few⟩
 less h hs := by obtain ⟨gn, hP⟩ := h.pr; exact ⟨⟨gn, hP.less hs⟩, fun k hk => h.ap k (hs k hk), h.num, h.few⟩
 grow h m hf := by
  obtain ⟨gn, hP⟩ := h.pr
  obtain ⟨⟨fx, U, hW, _⟩, _⟩ := id hP
  refine ⟨⟨gn, hP.grow m fun k hk => ⟨hf k hk, h.ap k (hf k hk)⟩⟩, fun k hk => ?_, h.num, h.few⟩
  rcases hk with hk | hk
  ·exact h.ap k hk
  ·intro e
   have := (hW.A.lt (hW.fm k e)).2
   omega
 get c h hc := by
  obtain ⟨gn, ⟨⟨fx, U, hW, _⟩, _⟩⟩ := h.pr
  refine (wGet_dead hL h17 hW hdead _).mono ?_
  rintro v w' ⟨⟨e, rfl, hE⟩, hm⟩
  exact ⟨⟨_, e, rfl, .inr ⟨rfl, hE⟩⟩, hm⟩
 res i h := by
  obtain ⟨gn, ⟨⟨fx, U, hW, _⟩, _⟩⟩ := h.pr
  refine (wResource hW i).mono ?_
  rintro v w' ⟨rfl, rfl⟩
  exact ⟨⟨_, rfl⟩, Mod.refl _ _⟩
 fr h := by
  obtain ⟨gn, ⟨⟨fx, U, hW, _⟩, _⟩⟩ := h.pr
  refine (wFrame hW.here).mono ?_
  rintro v w' ⟨rfl, rfl⟩
  exact ⟨rfl, Mod.refl _ _⟩
 set c i n h hc _ _ := by
  obtain ⟨gn, hP⟩ := h.pr
  obtain ⟨⟨fx, U, hW, _⟩, _⟩ := id hP
  refine (wSet_dead hL h17 hW hdead _ _ _).mono ?_
  intro v w' hm
  exact ⟨⟨⟨gn, hP.loc hm⟩, h.ap, h.num, h.few⟩, Mod.of_same hm⟩
 asg {X w s} i n h _ hn := by
  obtain ⟨gn, ⟨⟨fx, U, hW, hO, hU, hX⟩, h0⟩⟩ := h.pr
  refine (wAssign hL h7 hW i n).mono ?_
  rintro v w' ⟨gn', hW', hm⟩
  obtain ⟨hP, hm⟩ := Pair.tune (c := c0.tune s.R c0.frame s.seed gn) (c' := c0.tune (setR s.R i n) c0.frame s.seed gn') h0 hO hU hX h.ap rfl hW' hm
  exact ⟨⟨⟨gn', hP⟩, h.ap, setR64 h.num i hn, h.few⟩, hm⟩
 dr {X w s} n h _ hn := by
  obtain ⟨gn, ⟨⟨fx, U, hW, hO, hU, hX⟩, h0⟩⟩ := h.pr
  refine (wDraw hW n hn).mono ?_
  rintro v w' ⟨rfl, hW', hm⟩
  obtain ⟨hP, hm⟩ := Pair.tune (c := c0.tune s.R c0.frame s.seed gn) (c' := c0.tune s.R c0.frame (drawD s.seed n).1 gn) h0 hO hU hX h.ap rfl hW' hm
  exact ⟨⟨_, rfl⟩, ⟨⟨_, hP⟩, h.ap, h.num, h.few⟩, hm⟩
 add {X w s} x h hx hc := by
  obtain ⟨gn, hP⟩ := h.pr
  have hc : s.dr + s.gv ≤ 5000 := hc
  show Meets _ _ #[.pointer (if og = true then some ⟨o.bo, 0, none⟩ else none), _] _ fun v w' => NbI c0 w0 o S t B X w' (nbAdd og o.L.length o.most s x) ∧ _
  unfold nbAdd
  by_cases ho : og = true
  ·rw [if_pos ho, if_pos ho]
   by_cases hfit : x.fit o.L.length
   ·rw [if_pos hfit]
    by_cases hf : o.most ≤ s.gv
    ·rw [if_pos hf]
     refine (pAdd_full hL h6 hP x hx hfit hf (by omega)).mono ?_
     rintro v w' ⟨_, hP', hm⟩
     exact ⟨⟨⟨gn, hP'.less fun k hk => .inl hk⟩, h.ap, h.num, h.few⟩, hm⟩
    ·rw [if_neg hf]
     have hfew := h.few
     refine (pAdd_ok hP x hx hfit (by omega) hmo (by omega)).mono ?_
     rintro v w' ⟨_, hP', hm⟩
     exact ⟨⟨⟨gn, hP'⟩, h.ap, h.num, by show (s.l ++ [x]).length ≤ s.gv + 1; rw [List.length_append, List.length_singleton]; omega⟩, hm⟩
   ·rw [if_neg hfit]
    refine (pAdd_bad hL h1 hP x hx hfit).mono ?_
    rintro v w' ⟨_, hm⟩
    exact ⟨⟨⟨gn, hP.loc hm⟩, h.ap, h.num, h.few⟩, Mod.of_same hm⟩
  ·rw [if_neg ho, if_neg ho]
   refine (oAdd_nobody (hL.same hP.same0) h2 x).mono ?_
   rintro v w' ⟨_, hm⟩
   exact ⟨⟨⟨gn, hP.loc hm⟩, h.ap, h.num, h.few⟩, Mod.of_same hm⟩
 get64 h hq := by cases hq
 res64 {X w s i v} h hv := by
  have hv : getR s.R i = some v := hv
  unfold getR at hv
  split at hv
  ·cases hv
  ·exact h.num v (List.mem_of_getElem? hv)
 fr64 _ := hfr
 dr64 s n := drawD64 _ _
 in64 := ⟨hi0, hi1, hwho⟩
 cset s c i n := Nat.le_succ _
 casg s i n := Nat.le_succ _
 cdr s n := Nat.le_succ _
 cadd s x := by
  show nbCost (nbAdd og o.L.length o.most s x) ≤ _
  unfold nbAdd nbCost
  split
  ·split
   ·split
    ·show s.dr + 1 + s.gv ≤ _; omega
    ·show s.dr + (s.gv + 1) ≤ _; omega
   ·omega
  ·omega
end
section
def plainQ (i : Nat) : Comp := ⟨⟨#[UInt8.ofNat (97 + i)]⟩, ((1 + i : Nat) : Int), decide (i < 3), (i : Int), 0, 0, 0⟩
def plainC : List Comp := (List.range 4).map plainQ
def plainR : List ResM := [⟨⟨#[115]⟩, 5⟩, ⟨⟨#[116]⟩, 0⟩]
theorem plainQ_in {q : Comp} (h : q ∈ plainC) : ∃ i, i < 4 ∧ q = plainQ i := by
 obtain ⟨i, hi, rfl⟩ := List.mem_map.1 h
 exact ⟨i, by simpa using hi, rfl⟩
theorem one_ok {n : Nat} (h1 : 97 ≤ n) (h2 : n ≤ 122) : NameOk ⟨#[UInt8.ofNat n]⟩ :=
 ⟨by show 1 ≤ 1; omega, by show 1 ≤ 8; omega, fun x hx => by
  have : x = UInt8.ofNat n := by
   have hx : x ∈ [UInt8.ofNat n] := hx
   simpa using hx
  subst this
  rw [UInt8.toNat_ofNat']
  omega⟩
theorem plainC_good : GoodSc plainC where
 len := by decide
 names q hq := by
  obtain ⟨i, hi, rfl⟩ := plainQ_in hq
  exact one_ok (by omega) (by omega)
 apart i j hi hj e := by
  have hi : i < 4 := hi
  have hj : j < 4 := hj
  simp only [plainC, List.getElem_map, List.getElem_range, plainQ] at e
  have e2 : [UInt8.ofNat (97 + i)] = [UInt8.ofNat (97 + j)] := congrArg (fun b : ByteArray => b.data.toList) e
  have e3 := congrArg UInt8.toNat (List.cons.inj e2).1
  rw [UInt8.toNat_ofNat', UInt8.toNat_ofNat'] at e3
  omega
 wide q hq := by
  obtain ⟨i, hi, rfl⟩ := plainQ_in hq
  exact ⟨1 + i, rfl, by omega, by omega⟩
 clean q hq := by
  obtain ⟨i, hi, rfl⟩ := plainQ_in hq
  exact ⟨fun _ => rfl, fun _ => rfl, fun _ => rfl⟩
theorem plainR_good : GoodR plainC plainR where
 len := by decide
 names r hr := by
  simp only [plainR, List.mem_cons, List.not_mem_nil, or_false] at hr
  rcases hr with rfl | rfl
  ·exact one_ok (n := 115) (by omega) (by omega)
  ·exact one_ok (n := 116) (by omega) (by omega)
 apart i j hi hj e := by
  have hi : i < 2 := hi
  have hj : j < 2 := hj
  have h1 : i = 0 ∨ i = 1 := by omega
  have h2 : j = 0 ∨ j = 1 := by omega
  rcases h1 with rfl | rfl <;> rcases h2 with rfl | rfl
  ·rfl
  ·exact absurd (congrArg (fun b : ByteArray => b.data.toList) e) (by simp [plainR])
  ·exact absurd (congrArg (fun b : ByteArray => b.data.toList) e) (by simp [plainR])
  ·rfl
 other r hr q hq e := by
  obtain ⟨i, hi, rfl⟩ := plainQ_in hq
  have e2 : [UInt8.ofNat (97 + i)] = r.name.data.toList := congrArg (fun b : ByteArray => b.data.toList) e
  simp only [plainR, List.mem_cons, List.not_mem_nil, or_false] at hr
  rcases hr with rfl | rfl
  ·have e3 := congrArg UInt8.toNat (List.cons.inj (e2 : [UInt8.ofNat (97 + i)] = [115])).1
   rw [UInt8.toNat_ofNat'] at e3
   have : (97 + i) % 2 ^ 8 = 115 := e3
   omega
  ·have e3 := congrArg UInt8.toNat (List.cons.inj (e2 : [UInt8.ofNat (97 + i)] = [116])).1
   rw [UInt8.toNat_ofNat'] at e3
   have : (97 + i) % 2 ^ 8 = 116 := e3
   omega
theorem plain_str : ∀ j, j < 4 → (⟨#[97, 98, 99, 100]⟩ : ByteArray).extract j (j + 1) = ⟨#[UInt8.ofNat (97 + j)]⟩
 | 0, _ => rfl | 1, _ => rfl | 2, _ => rfl | 3, _ => rfl
 | n + 4, h => by omega
end
end Go.Proofs.YtmdcoaljjnbhlaaGreatDoor
