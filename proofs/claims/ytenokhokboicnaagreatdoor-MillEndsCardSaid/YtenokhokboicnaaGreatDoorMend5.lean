/-
Lemmas for the statements of this seat: no statement of the seat is proved in this part (5 of 7); the conditions stand in each theorem.
-/
import Derived.Test.YtenokhokboicnaaGreatDoorMend4
import Derived.Test.YtenokhokboicnaaGreatDoorProg
set_option linter.unusedSimpArgs false
set_option linter.unusedVariables false
set_option maxRecDepth 100000
namespace Go.Proofs.YtenokhokboicnaaGreatDoor
open Go Go.Ev
section
attribute [local irreducible] kO kB kStr kInt kN kG kIf kfld kld kldN kst knew kmap kbld kbldS kext kcnv klenStr klen kcap kprt kprtN kbool kint kstr keq kun ksl kix kiv kta kmk kmm ksem ksemU kextf kcallV kcallM kcall kL
def ErrI (v : Value) : Prop := ∃ ty y, v = .iface ty y
theorem ek_of {S : SM} {t : Nat} (hG : GS S t) (ht : t ≤ 10000) {i : Nat} {x : Int × Bool} (h : S.gens[i]? = some x) {g : Int} (hg : 0 ≤ g) (hg2 : g ≤ x.1 + 1) : ∃ e : EK, e.i = (i : Int) ∧ e.g = g := by
 have h1 := hG.gen i x h
 have h2 := (List.getElem?_eq_some_iff.1 h).1
 have h3 := hG.g64
 exact ⟨⟨(i : Int), g, by unfold I64; omega, by unfold I64; omega⟩, rfl, rfl⟩
theorem wSpawn_ok {pr : Nat → Prop} {Sa : Nat → Addr} {c : WC} {w0 : World} (hL : LaidP pr Sa w0) (h6 : pr 6) (hD : DeAt w0) {fx : Nat → Prop} {w : World} {S : SM} {t : Nat} {B : BdM} (h : WdAt c w0 fx w S t B) (ht : t ≤ 10000) (hnx : B.nx ≤ 1000000)
  {P : List Part} {a : Option Addr} {cp : Nat} (hs : SlIs w a P.length 6 (P.flatMap Part.cells)) (hfa : ∀ k f, a = some ⟨k, f, none⟩ → fx k) (hn : P.length ≤ 64) (hf : ∀ q ∈ P, FitsP c.L q) (hnt : NoTwice P) (hso : SortP P) (hlt : (viewS S B).length < S.gens.length) :
  Meets Tryz.prog 38 #[.pointer (some ⟨c.bw, 0, none⟩), .slice a P.length cp] w fun v w' => v = .tuple #[natV B.nx, .nilIface] ∧ Out c w0 fx w S t B (some (viewS S B ++ [(B.nx, P)], B.nx + 1)) w' := by
 have hs0 := h.A.same0
 have hh := h.here
 have hbwlt := lt_of_blk h.here
 have hwf := h.wf
 have hA := h.A
 obtain ⟨o, p, U, C, hb, hU, hfx⟩ := hA
 refine f38_ok ?_
 unfold f38
 rw [keq_ptr_nil ptWor]
 refine kB_at ?_
 refine kIf_F rfl ?_
 unfold f38_0
 refine kN_at ?_
 refine kfld_of ?_
 refine kld_of (v := .pointer (some ⟨c.bs, 0, none⟩)) hh rfl ?_
 have hfull : S.free ≠ [] := fun e => h.link.full.1 e hlt
 have hsp := spawn_at (L := P) (c := cp) (hD.same C.same) C.sp (C.lo _ hD.lt) C.gs ht hfull hs (fun k f e => (hfx k (hfa k f e)).2.2) (by omega) (by rw [h.cs]; exact hf) hnt
 rw [ptrV] at hsp
 refine kcall_of hsp ?_
 rintro v w9 ⟨i, g0, L1, S1, hi1, hg1, rfl, hp1, hs1', hG1, B1, T1⟩
 have eL : L1 = P := (sorted_unique hp1.symm hso hs1' hnt).symm
 subst eL
 obtain ⟨hA9, hm9⟩ := WAt.turned C hb hU hfx T1 hG1
 obtain ⟨ek, hei, heg⟩ := ek_of C.gs ht hg1 (g := g0 + 1) (by have := (C.gs.gen i _ hg1).1; omega) (by omega)
 have hids : B.ids ek = none := BdM.ids_none.2 fun x hx e => by
  obtain ⟨j, h1, h2⟩ := h.link.live x hx
  rw [e, hei] at h1
  have : i = j := by omega
  subst this
  rw [hg1] at h2
  cases h2
 have hBl : B.l.length < 64 := by
  have := C.gs.g64
  rw [viewS_len] at hlt
  omega
 refine kext_at rfl ?_
 refine kext_at rfl ?_
 have hz9 := hm9.size
 refine knew_of fun w13 h13 hs13 hb13 => ?_
 refine kst_of (vs := [.int .i64 i, .int .i64 (g0 + 1)]) hb13 rfl rfl rfl (by simp) (by simp) fun w14 h14 hs14 hb14 => ?_
 have hb14 : blk w14 w9.heap.size = some (.cells #[.int .i64 i, .int .i64 (g0 + 1)] 176) := hb14
 have m14 : Same w9 w14 := h13.trans' (h14.mono fun k _ e => .inr (by omega))
 rw [keq_nil_nil' ifErr]
 refine kB_at ?_
 refine kIf_F rfl ?_
 unfold f38_1
 have hA14 := hA9.loc m14
 have hm14 : Mod (fun k => w0.heap.size ≤ k ∧ ¬ fx k) w w14 := hm9.trans (Mod.of_same m14)
 have hh14 := hm14.get hh (fun hk => hk.2 h.fw)
 obtain ⟨o4, p4, U4, C4, hb4, hU4, hfx4⟩ := hA14
 refine kN_at ?_
 refine kfld_of ?_
 refine kld_of (v := .pointer (some ⟨c.bb, 0, none⟩)) hh14 rfl ?_
 refine kcall_of (bdNext hb4) ?_
 rintro v w22 ⟨rfl, rfl⟩
 have md : Same w22 w22.drew := (Mod.refl (fun _ => False) _).drew
 refine kN_at ?_
 refine kfld_of ?_
 refine kld_of (v := .pointer (some ⟨c.bb, 0, none⟩)) (md.get hh14 (fun h => h)) rfl ?_
 refine kG_of rfl ?_
 refine kldN_at (cs := [.int .i64 i, .int .i64 (g0 + 1)]) (md.get hb14 (fun h => h)) rfl (by omega) ?_
 refine kG_of rfl ?_
 have hgv := bdGive (hb4.same md) ek hids hBl (by omega)
 have hev : ek.v = .agg #[.int .i64 i, .int .i64 (g0 + 1)] := by unfold EK.v entV; rw [hei, heg]
 rw [hev] at hgv
 refine kcall_of hgv ?_
 rintro v w27 ⟨rfl, hB27, hm27⟩
 have C4d := C4.loc md
 obtain ⟨hA27, hm27'⟩ := WAt.badged C4d (fun k hk => hU4 k hk) (fun k hk => ⟨(hfx4 k hk).1, Nat.lt_of_lt_of_le (hfx4 k hk).2.1 md.size, (hfx4 k hk).2.2⟩) hB27 hm27
 refine kext_at rfl ?_
 refine kext_at rfl ?_
 rw [keq_nil_nil' ifErr]
 refine kB_at ?_
 refine kIf_F rfl ?_
 unfold f38_2
 have hm27w : Mod (fun k => w0.heap.size ≤ k ∧ ¬ fx k) w w27 := (hm14.trans (Mod.of_same md)).trans hm27'
 have hh27 := hm27w.get hh (fun hk => hk.2 h.fw)
 refine kbld_of (cs := [.int .i64 7, .int .i64 0, .int .i64 0, .int .i64 0, .int .i64 0, .int .i64 0, .int .i64 0, .int .i64 0, .slice none 0 0, .int .i64 0, natV B.nx]) rfl ?_
 refine kcall_of (wNote hh27 _) ?_
 rintro v w41 ⟨rfl, h41⟩
 refine kbld_of (cs := [.int .i64 2, natV B.nx, .int .i64 0, .int .i64 0, .int .i64 0, .int .i64 0, .int .i64 0, .int .i64 0, .slice none 0 0, .int .i64 0, .int .i64 0]) rfl ?_
 refine kcall_of (wNote (h41.get hh27 (fun h => h)) _) ?_
 rintro v w44 ⟨rfl, h44⟩
 have m44 := h41.trans h44
 have hfr := hfull
 refine ⟨rfl, S1, _, (h.step hA27 hm27w (h.link.born hfr B1 hg1 hei heg) B1.cs).loc m44, by rw [B1.gens, List.length_set], hm27w.trans (Mod.of_same m44), view_born h.link B1 hg1 hei, rfl⟩
end
section
attribute [local irreducible] kO kB kStr kInt kN kG kIf kfld kld kldN kst knew kmap kbld kbldS kext kcnv klenStr klen kcap kprt kprtN kbool kint kstr keq kun ksl kix kiv kta kmk kmm ksem ksemU kextf kcallV kcallM kcall kL
end
section
attribute [local irreducible] kO kB kStr kInt kN kG kIf kfld kld kldN kst knew kmap kbld kbldS kext kcnv klenStr klen kcap kprt kprtN kbool kint kstr keq kun ksl kix kiv kta kmk kmm ksem ksemU kextf kcallV kcallM kcall kL
theorem Out.back {c : WC} {w0 : World} {fx fx' : Nat → Prop} {w w8 w' : World} {S : SM} {t : Nat} {B : BdM} {res : Option (List (Nat × List Part) × Nat)} (h : Out c w0 fx' w8 S t B res w') (hs : ∀ k, fx k → fx' k) (m : Same w w8) (h1 : ∀ k, c.mine k → fx k) : Out c w0 fx w S t B res w' := by
 obtain ⟨S', B', hW, hg, hm, hv, hn⟩ := h
 exact ⟨S', B', hW.less hs h1, hg, (Mod.of_same m).trans (hm.mono fun k _ hk => ⟨hk.1, fun hx => hk.2 (hs k hx)⟩), hv, hn⟩
theorem WdAt.ext {c : WC} {w0 : World} {fx : Nat → Prop} {w w' : World} {S : SM} {t : Nat} {B : BdM} (h : WdAt c w0 fx w S t B) (m : Same w w') : WdAt c w0 (fun k => fx k ∨ (w.heap.size ≤ k ∧ k < w'.heap.size)) w' S t B :=
 h.other m fun k hk => hk.elim
theorem Out.then {c : WC} {w0 : World} {fx fx1 : Nat → Prop} {w w1 w2 w' : World} {S : SM} {t : Nat} {B : BdM} {res : Option (List (Nat × List Part) × Nat)} (h : WdAt c w0 fx w S t B) (hO : Out c w0 fx1 w1 S t B res w2) (hs : ∀ k, fx k → fx1 k) (m : Same w w1) (m2 : Mod (fun k => w.heap.size ≤ k ∧ fx1 k) w2 w') : Out c w0 fx w S t B res w' := by
 obtain ⟨S', B', hW, hg, hm, hv, hn⟩ := hO
 have hz := h.A.same0.size
 have hlt := fun k hk => (h.A.lt (k := k) hk).2
 refine ⟨S', B', (hW.other m2 fun k hk => ⟨hk.2, fun e => ?_⟩).less (fun k hk => .inl (hs k hk)) h.fm, hg, ?_, hv, hn⟩
 ·have := hlt _ (h.fm k e); omega
 ·exact ((Mod.of_same m).trans (hm.mono fun k _ hk => ⟨hk.1, fun hx => hk.2 (hs k hx)⟩)).trans' (m2.mono fun k _ e => .inr e.1)
theorem wFrame {c : WC} {w : World} (h : blk w c.bw = some (.cells c.cells 160)) : Meets Tryz.prog 142 #[.pointer (some ⟨c.bw, 0, none⟩)] w fun v w' => v = .int .i64 c.frame ∧ w' = w := by
 refine f142_ok ?_
 unfold f142
 rw [keq_ptr_nil ptWor]
 refine kB_at ?_
 refine kIf_F rfl ?_
 unfold f142_0
 refine kN_at ?_
 refine kfld_of ?_
 refine kld_of (v := .int .i64 c.frame) h rfl ?_
 exact ⟨rfl, rfl⟩
end
section
structure OC where
 bo : Nat
 ca : Option Addr
 cc : Nat
 rv : Value
 L : List Comp
 most : Nat
def OC.cells (o : OC) (sv : Value) (gv dr : Nat) : Array Value := #[.slice o.ca o.L.length o.cc, o.rv, natV o.most, sv, natV gv, natV dr]
def OrdM.ok (x : OrdM) : Prop := I64 x.kind ∧ I64 x.id ∧ x.mask < 4294967296 ∧ I64 x.comp
structure OAt (o : OC) (U : Nat → Prop) (w : World) (l : List OrdM) (gv dr : Nat) : Prop where
 ex : ∃ sv, blk w o.bo = some (.cells (o.cells sv gv dr) 163) ∧ Own w sv 4 (l.flatMap OrdM.cells) ∧ ∀ k, vblk sv k → U k ∧ k ≠ o.bo ∧ ∀ f, o.ca ≠ some ⟨k, f, none⟩
 comps : SlIs w o.ca o.L.length 7 (o.L.flatMap Comp.cells)
 own : U o.bo
 ca : ∀ k f, o.ca = some ⟨k, f, none⟩ → U k ∧ k ≠ o.bo
 good : GoodSc o.L
 rvc : o.rv.cells = #[o.rv]
 fit : ∀ x ∈ l, x.fit o.L.length ∧ x.ok
theorem OAt.mod {o : OC} {U fp : Nat → Prop} {w w' : World} {l : List OrdM} {gv dr : Nat} (h : OAt o U w l gv dr) (m : Mod fp w w') (hf : ∀ k, U k → ¬ fp k) : OAt o U w' l gv dr := by
 obtain ⟨⟨sv, h1, h2, h3⟩, h4, h5, h6, h7, h8, h9⟩ := h
 exact ⟨⟨sv, m.get h1 (hf _ h5), h2.mod m (fun k hk => hf k (h3 k hk).1), h3⟩, h4.mod m (fun k f e => hf k (h6 k f e).1), h5, h6, h7, h8, h9⟩
theorem OAt.same {o : OC} {U : Nat → Prop} {w w' : World} {l : List OrdM} {gv dr : Nat} (h : OAt o U w l gv dr) (m : Same w w') : OAt o U w' l gv dr := h.mod m fun _ _ h => h
theorem sl_lt {w : World} {a : Option Addr} {n sz : Nat} {vs : List Value} (h : SlIs w a n sz vs) (hn : 0 < n) (hs : 0 < sz) : ∀ k f, a = some ⟨k, f, none⟩ → k < w.heap.size := by
 intro k f e
 obtain ⟨b, o, c, t, z, e2, hb, _⟩ := h.at hn hs
 rw [e] at e2
 cases e2
 exact lt_of_blk hb
theorem OAt.cut {o : OC} {U : Nat → Prop} {w : World} {l : List OrdM} {gv dr : Nat} (h : OAt o U w l gv dr) (h0 : 0 < o.L.length) : OAt o (fun k => U k ∧ k < w.heap.size) w l gv dr := by
 obtain ⟨⟨sv, h1, h2, h3⟩, h4, h5, h6, h7, h8, h9⟩ := h
 exact ⟨⟨sv, h1, h2, fun k hk => ⟨⟨(h3 k hk).1, h2.vblk_lt hk⟩, (h3 k hk).2⟩⟩, h4, ⟨h5, lt_of_blk h1⟩, fun k f e => ⟨⟨(h6 k f e).1, sl_lt h4 h0 (by omega) k f e⟩, (h6 k f e).2⟩, h7, h8, h9⟩
structure Pair (c : WC) (w0 : World) (o : OC) (X : Nat → Prop) (w : World) (S : SM) (t : Nat) (B : BdM) (l : List OrdM) (gv dr : Nat) : Prop where
 ex : ∃ fx U, WdAt c w0 fx w S t B ∧ OAt o U w l gv dr ∧ (∀ k, U k → fx k ∧ ¬ X k ∧ ¬ c.mine k) ∧ ∀ k, X k → fx k
 pos : 0 < o.L.length
theorem Pair.order {c : WC} {w0 : World} {o : OC} {X fx U : Nat → Prop} {w w' : World} {S : SM} {t : Nat} {B : BdM} {l' : List OrdM} {gv' dr' : Nat} (h0 : 0 < o.L.length) (hW : WdAt c w0 fx w S t B) (hU : ∀ k, U k → fx k ∧ ¬ X k ∧ ¬ c.mine k) (hX : ∀ k, X k → fx k)
  (hO : OAt o (fun k => U k ∨ w.heap.size ≤ k) w' l' gv' dr') (m : Mod U w w') : Pair c w0 o X w' S t B l' gv' dr' ∧ Mod (fun k => w0.heap.size ≤ k ∧ ¬ X k) w w' := by
 refine ⟨⟨⟨_, _, hW.other m (fun k hk => ⟨(hU k hk).1, (hU k hk).2.2⟩), hO.cut h0, fun k hk => ?_, fun k hk => .inl (hX k hk)⟩, h0⟩, m.mono fun k _ hk => ⟨(hW.A.lt (hU k hk).1).1, (hU k hk).2.1⟩⟩
 obtain ⟨hk, hlt⟩ := hk
 rcases hk with hk | hk
 ·exact ⟨.inl (hU k hk).1, (hU k hk).2⟩
 ·refine ⟨.inr ⟨hk, hlt⟩, fun hx => ?_, fun e => ?_⟩
  ·have := (hW.A.lt (hX k hx)).2; omega
  ·have := (hW.A.lt (hW.fm k e)).2; omega
theorem Pair.act {c : WC} {w0 : World} {o : OC} {X fx U : Nat → Prop} {w w' : World} {S' : SM} {t' : Nat} {B' : BdM} {l : List OrdM} {gv dr : Nat} (h0 : 0 < o.L.length) (hO : OAt o U w l gv dr) (hU : ∀ k, U k → fx k ∧ ¬ X k ∧ ¬ c.mine k) (hX : ∀ k, X k → fx k)
  (hW' : WdAt c w0 fx w' S' t' B') (m : Mod (fun k => w0.heap.size ≤ k ∧ ¬ fx k) w w') : Pair c w0 o X w' S' t' B' l gv dr ∧ Mod (fun k => w0.heap.size ≤ k ∧ ¬ X k) w w' :=
 ⟨⟨⟨fx, U, hW', hO.mod m (fun k hk hn => hn.2 (hU k hk).1), hU, hX⟩, h0⟩, m.mono fun k _ hk => ⟨hk.1, fun hx => hk.2 (hX k hx)⟩⟩
theorem Pair.grow {c : WC} {w0 : World} {o : OC} {X : Nat → Prop} {w w' : World} {S : SM} {t : Nat} {B : BdM} {l : List OrdM} {gv dr : Nat} (h : Pair c w0 o X w S t B l gv dr) {fp : Nat → Prop} (m : Mod fp w w') (hp : ∀ k, fp k → X k ∧ ¬ c.mine k) : Pair c w0 o (fun k => X k ∨ (w.heap.size ≤ k ∧ k < w'.heap.size)) w' S t B l gv dr := by
 obtain ⟨⟨fx, U, hW, hO, hU, hX⟩, h0⟩ := h
 refine ⟨⟨_, U, hW.other m (fun k hk => ⟨hX k (hp k hk).1, (hp k hk).2⟩), hO.mod m (fun k hk hf => (hU k hk).2.1 (hp k hf).1), fun k hk => ⟨.inl (hU k hk).1, fun hx => ?_, (hU k hk).2.2⟩, fun k hk => ?_⟩, h0⟩
 ·rcases hx with hx | hx
  ·exact (hU k hk).2.1 hx
  ·have := (hW.A.lt (hU k hk).1).2; omega
 ·rcases hk with hk | hk
  ·exact .inl (hX k hk)
  ·exact .inr hk
theorem Pair.loc {c : WC} {w0 : World} {o : OC} {X : Nat → Prop} {w w' : World} {S : SM} {t : Nat} {B : BdM} {l : List OrdM} {gv dr : Nat} (h : Pair c w0 o X w S t B l gv dr) (m : Same w w') : Pair c w0 o X w' S t B l gv dr := by
 obtain ⟨⟨fx, U, hW, hO, hU, hX⟩, h0⟩ := h
 exact ⟨⟨fx, U, hW.loc m, hO.same m, hU, hX⟩, h0⟩
theorem Pair.less {c : WC} {w0 : World} {o : OC} {X X' : Nat → Prop} {w : World} {S : SM} {t : Nat} {B : BdM} {l : List OrdM} {gv dr : Nat} (h : Pair c w0 o X w S t B l gv dr) (hs : ∀ k, X' k → X k) : Pair c w0 o X' w S t B l gv dr := by
 obtain ⟨⟨fx, U, hW, hO, hU, hX⟩, h0⟩ := h
 exact ⟨⟨fx, U, hW, hO, fun k hk => ⟨(hU k hk).1, fun hx => (hU k hk).2.1 (hs k hx), (hU k hk).2.2⟩, fun k hk => hX k (hs k hk)⟩, h0⟩
theorem Pair.lt {c : WC} {w0 : World} {o : OC} {X : Nat → Prop} {w : World} {S : SM} {t : Nat} {B : BdM} {l : List OrdM} {gv dr : Nat} (h : Pair c w0 o X w S t B l gv dr) {k : Nat} (hk : X k) : w0.heap.size ≤ k ∧ k < w.heap.size := by
 obtain ⟨⟨fx, U, hW, hO, hU, hX⟩, h0⟩ := h
 exact hW.A.lt (hX k hk)
theorem Pair.same0 {c : WC} {w0 : World} {o : OC} {X : Nat → Prop} {w : World} {S : SM} {t : Nat} {B : BdM} {l : List OrdM} {gv dr : Nat} (h : Pair c w0 o X w S t B l gv dr) : Same w0 w := by
 obtain ⟨⟨fx, U, hW, hO, hU, hX⟩, h0⟩ := h
 exact hW.A.same0
theorem WdAt.base {c : WC} {w00 w0 : World} {fx : Nat → Prop} {w : World} {S : SM} {t : Nat} {B : BdM} (h : WdAt c w0 fx w S t B) (m : Same w00 w0) : WdAt c w00 (fun k => fx k ∨ (w00.heap.size ≤ k ∧ k < w0.heap.size)) w S t B := by
 have hz := m.size
 obtain ⟨o, p, U, C, hb, hU, hf⟩ := h.A
 have hzw := C.same.size
 refine ⟨h.here, fun k hk => .inl (h.fm k hk), h.comps, h.gh, h.go, h.rvc, h.good, h.rl, ⟨o, p, U, ⟨C.sp, C.gs, fun k hk => C.lo k (by omega), C.hi, m.trans C.same⟩, hb, fun k hk => ⟨by have := (hU k hk).1; omega, (hU k hk).2.1, fun hx => ?_⟩, fun k hk => ?_⟩, h.link, h.cs, h.gi, h.ap⟩
 ·rcases hx with hx | hx
  ·exact (hU k hk).2.2 hx
  ·have := (hU k hk).1; omega
 ·rcases hk with hk | hk
  ·exact ⟨by have := (hf k hk).1; omega, (hf k hk).2⟩
  ·exact ⟨hk.1, by omega, C.lo k hk.2⟩
theorem WdAt.le {c : WC} {w0 : World} {fx : Nat → Prop} {w : World} {S : SM} {t : Nat} {B : BdM} (h : WdAt c w0 fx w S t B) : B.l.length ≤ 64 := h.link.le h.gs.g64
def newB (w w' : World) (X : Nat → Prop) : Nat → Prop := fun k => X k ∨ (w.heap.size ≤ k ∧ k < w'.heap.size)
end
section
abbrev ViewT : Type := List (Nat × List Part)
def okV (V : ViewT) : Prop := ∀ y ∈ V, ∀ q ∈ y.2, q.ok
end
section
attribute [local irreducible] kO kB kStr kInt kN kG kIf kfld kld kldN kst knew kmap kbld kbldS kext kcnv klenStr klen kcap kprt kprtN kbool kint kstr keq kun ksl kix kiv kta kmk kmm ksem ksemU kextf kcallV kcallM kcall kL
instance (n : Nat) (x : OrdM) : Decidable (x.fit n) := by unfold OrdM.fit; infer_instance
def OrdM.val (x : OrdM) : Value := .agg x.cells.toArray
theorem ptOrd : isPtrT Tryz.prog 51 = true := by kernel_rfl
theorem apOrd : appT Tryz.prog 161 4 32 = true := by kernel_rfl
theorem slOrd_is : ∃ e, Tryz.prog.underlying 161 = some (.slice e) := slT_of (by kernel_rfl)
theorem oWrong {Sa : Nat → Addr} {k lo : Nat} {x : Value} {w : World} (h : ErrX Sa k lo x w) (hlo : lo ≤ w.heap.size) : Meets Tryz.prog 69 #[x] w fun v w' => ErrX Sa k lo v w' ∧ Same w w' := by
 refine f69_ok ?_
 unfold f69
 refine kcall_of (atX_spec _ h hlo) ?_
 rintro v w' ⟨h1, h2⟩
 exact ⟨h1, h2⟩
theorem oIs_spec {o : OC} {w : World} {sv : Value} {gv dr : Nat} (h : blk w o.bo = some (.cells (o.cells sv gv dr) 163)) (hn : o.L.length ≤ 32) (x : OrdM) (hx : x.ok) :
  Meets Tryz.prog 199 #[.pointer (some ⟨o.bo, 0, none⟩), x.val] w fun v w' => v = .bool (decide (x.fit o.L.length)) ∧ Same w w' := by
 obtain ⟨h1, h2', h3, h4⟩ := hx
 have hfit : x.fit o.L.length ↔ (x.kind = 1 ∧ x.mask < 2 ^ o.L.length) ∨ x.kind = 2 ∨ ((x.kind = 3 ∨ x.kind = 4) ∧ 0 ≤ x.comp ∧ x.comp < o.L.length) := Iff.rfl
 unfold OrdM.val
 refine f199_ok ?_
 unfold f199
 refine knew_of fun w2 h2 hs2 hb2 => ?_
 have hb2 : blk w2 w.heap.size = some (.cells x.cells.toArray 278) := hb2
 have hh := h2.get h (fun h => h)
 refine kN_at ?_
 refine kfld_of ?_
 refine kfld_of ?_
 refine kld_of (v := .slice o.ca o.L.length o.cc) hh rfl ?_
 refine klen_at ?_
 refine kfld_of ?_
 refine kld_of (v := .int .i64 x.kind) hb2 rfl ?_
 refine eql_at ?_
 refine kB_at ?_
 have rest : ∀ b : Bool, b = decide (x.kind = 3 ∨ x.kind = 4) → x.kind ≠ 1 → x.kind ≠ 2 → f199_0 (.pointer (some ⟨w.heap.size, 0, none⟩)) (.int .i64 o.L.length) (.bool b) (fun v w' => v = .bool (decide (x.fit o.L.length)) ∧ Same w w') w2 := by
  intro b hb n1 n2
  unfold f199_0
  refine kB_at ?_
  refine kIf_of (fun e => ?_) (fun e => ?_)
  ·have h34 : x.kind = 3 ∨ x.kind = 4 := of_decide_eq_true (hb.symm.trans e)
   refine kfld_of ?_
   refine kld_of (v := .int .i64 x.comp) hb2 rfl ?_
   refine geq_at ?_
   refine kB_at ?_
   refine kIf_dec (fun hc => ?_) (fun hc => ?_)
   ·refine kfld_of ?_
    refine kld_of (v := .int .i64 x.comp) hb2 rfl ?_
    refine lss_at ?_
    refine ⟨?_, h2⟩
    congr 1
    rw [decide_eq_decide, hfit]
    omega
   ·refine ⟨?_, h2⟩
    congr 1
    symm
    rw [decide_eq_false_iff_not, hfit]
    omega
  ·have h34 : ¬ (x.kind = 3 ∨ x.kind = 4) := of_decide_eq_false (hb.symm.trans e)
   unfold f199_1
   refine ⟨?_, h2⟩
   congr 1
   symm
   rw [decide_eq_false_iff_not, hfit]
   omega
 refine kIf_dec (fun e1 => ?_) (fun e1 => ?_)
 ·refine kfld_of ?_
  refine kld_of (v := msk x.mask) hb2 rfl ?_
  rw [msk, kint_shr]
  refine kG_of (by omega) ?_
  rw [shr_nat x.mask o.L.length (by show o.L.length ≤ 32; omega)]
  refine eql_at ?_
  refine ⟨?_, h2⟩
  congr 1
  rw [decide_eq_decide, hfit]
  have hp : 0 < 2 ^ o.L.length := Nat.pow_pos (by omega)
  constructor
  ·intro e
   have e : x.mask / 2 ^ o.L.length = 0 := by omega
   exact .inl ⟨e1, by rcases (Nat.div_eq_zero_iff).1 e with h | h; omega; exact h⟩
  ·intro e
   have : x.mask < 2 ^ o.L.length := by
    rcases e with e | e | e
    ·exact e.2
    ·omega
    ·omega
   rw [Nat.div_eq_of_lt this]; rfl
 ·refine eql_at ?_
  refine kB_at ?_
  refine kIf_dec (fun e2 => ?_) (fun e2 => ?_)
  ·refine ⟨?_, h2⟩
   congr 1
   symm
   rw [decide_eq_true_eq, hfit]
   omega
  ·refine eql_at ?_
   refine kB_at ?_
   refine kIf_dec (fun e3 => ?_) (fun e3 => ?_)
   ·rw [decT e3]
    exact rest true (by rw [decT (Or.inl e3)]) e1 e2
   ·refine eql_at ?_
    refine rest _ ?_ e1 e2
    rw [decide_eq_decide]
    omega
theorem oAdd_bad {pr : Nat → Prop} {Sa : Nat → Addr} {o : OC} {U : Nat → Prop} {w : World} {l : List OrdM} {gv dr : Nat} (hL : LaidP pr Sa w) (h1 : pr 1) (h : OAt o U w l gv dr) (x : OrdM) (hx : x.ok) (hb : ¬ x.fit o.L.length) :
  Meets Tryz.prog 146 #[.pointer (some ⟨o.bo, 0, none⟩), x.val] w fun v w' => ErrX Sa 1 w.heap.size v w' ∧ Same w w' := by
 have hl := h.good.len
 obtain ⟨sv, hh, hO, hv⟩ := h.ex
 unfold OrdM.val
 refine f146_ok ?_
 unfold f146
 refine knew_of fun w2 h2 hs2 hb2 => ?_
 have hb2 : blk w2 w.heap.size = some (.cells x.cells.toArray 278) := hb2
 have hh2 := h2.get hh (fun h => h)
 rw [keq_ptr_nil ptOrd]
 refine kB_at ?_
 refine kIf_F rfl ?_
 refine kldN_at (cs := x.cells) hb2 rfl (by omega) ?_
 have his := oIs_spec hh2 (by omega) x hx
 rw [OrdM.val] at his
 refine kcall_of his ?_
 rintro v w10 ⟨rfl, h10⟩
 refine not_at ?_
 rw [decF hb]
 refine kB_at ?_
 refine kIf_T rfl ?_
 refine kld_err (hL.same (h2.trans h10)) h1 rfl rfl ?_
 have hz := (h2.trans h10).size
 refine kcall_of (oWrong (ErrX.sent Sa 1 w.heap.size w10) hz) ?_
 rintro v w14 ⟨hE, h14⟩
 exact ⟨hE, (h2.trans h10).trans h14⟩
theorem oAdd_full {pr : Nat → Prop} {Sa : Nat → Addr} {o : OC} {U : Nat → Prop} {w0 w : World} {l : List OrdM} {gv dr : Nat} (hL : LaidP pr Sa w0) (h6 : pr 6) (hs0 : Same w0 w) (hlo : ∀ k, U k → w0.heap.size ≤ k) (h : OAt o U w l gv dr) (x : OrdM) (hx : x.ok) (hb : x.fit o.L.length) (hf : o.most ≤ gv) (hdr : dr ≤ 1000000) :
  Meets Tryz.prog 146 #[.pointer (some ⟨o.bo, 0, none⟩), x.val] w fun v w' => ErrX Sa 6 w.heap.size v w' ∧ OAt o U w' l gv (dr + 1) ∧ Mod U w w' := by
 have hl := h.good.len
 obtain ⟨⟨sv, hh, hO, hv⟩, hcm, hown, hca, hgood, hrv, hfit⟩ := h
 have hbl := lt_of_blk hh
 unfold OrdM.val
 refine f146_ok ?_
 unfold f146
 refine knew_of fun w2 h2 hs2 hb2 => ?_
 have hb2 : blk w2 w.heap.size = some (.cells x.cells.toArray 278) := hb2
 have hh2 := h2.get hh (fun h => h)
 rw [keq_ptr_nil ptOrd]
 refine kB_at ?_
 refine kIf_F rfl ?_
 refine kldN_at (cs := x.cells) hb2 rfl (by omega) ?_
 have his := oIs_spec hh2 (by omega) x hx
 rw [OrdM.val] at his
 refine kcall_of his ?_
 rintro v w10 ⟨rfl, h10⟩
 refine not_at ?_
 rw [decT hb]
 refine kB_at ?_
 refine kIf_F rfl ?_
 have md : Same w10 w10.drew := (Mod.refl (fun _ => False) _).drew
 have mw : Same w w10.drew := (h2.trans h10).trans md
 have hhd := mw.get hh (fun h => h)
 have hz := mw.size
 generalize w10.drew = wd at *
 refine kN_at ?_
 refine kfld_of ?_
 refine kld_of (v := natV gv) hhd rfl ?_
 refine kG_of rfl ?_
 refine kN_at ?_
 refine kfld_of ?_
 refine kld_of (v := natV o.most) hhd rfl ?_
 refine kG_of rfl ?_
 refine geq_at ?_
 rw [decT (by omega)]
 refine kB_at ?_
 refine kIf_T rfl ?_
 refine kN_at ?_
 refine kfld_of ?_
 refine kld_of (v := natV dr) hhd rfl ?_
 refine add_at (by omega) (by omega) ?_
 refine kN_at ?_
 refine kfld_of ?_
 refine kst1_of hhd rfl rfl (by show 5 < 6; omega) fun w24 h24 hs24 hb24 => ?_
 have hb24 : blk w24 o.bo = some (.cells (o.cells sv gv (dr + 1)) 163) := hb24
 have m24 : Mod (fun k => k = o.bo) w w24 := (Mod.of_same mw).trans h24
 have hbo := hlo _ hown
 have s024 : Same w0 w24 := hs0.trans' (m24.mono fun k _ e => .inr (by omega))
 refine kld_err (hL.same s024) h6 rfl rfl ?_
 refine kcall_of (oWrong (ErrX.sent Sa 6 w.heap.size w24) m24.size) ?_
 rintro v w27 ⟨hE, h27⟩
 have m27 : Mod (fun k => k = o.bo) w w27 := m24.trans (Mod.of_same h27)
 exact ⟨hE, ⟨⟨sv, h27.get hb24 (fun h => h), hO.mod m27 (fun k hk e => (hv k hk).2.1 e), hv⟩, hcm.mod m27 (fun k f e hk => (hca k f e).2 hk), hown, hca, hgood, hrv, hfit⟩, m27.mono fun k _ e => by rw [e]; exact hown⟩
theorem oAdd_ok {o : OC} {U : Nat → Prop} {w : World} {l : List OrdM} {gv dr : Nat} (h : OAt o U w l gv dr) (x : OrdM) (hx : x.ok) (hb : x.fit o.L.length) (hf : gv < o.most) (hmo : o.most ≤ 1000000) (hln : l.length ≤ 1000000) (h0 : 0 < o.L.length) :
  Meets Tryz.prog 146 #[.pointer (some ⟨o.bo, 0, none⟩), x.val] w fun v w' => v = .nilIface ∧ OAt o (fun k => U k ∨ w.heap.size ≤ k) w' (l ++ [x]) (gv + 1) dr ∧ Mod U w w' := by
 have hl := h.good.len
 obtain ⟨⟨sv, hh, hO, hv⟩, hcm, hown, hca, hgood, hrv, hfit⟩ := h
 have hbl := lt_of_blk hh
 have hfl := flat_len OrdM.cells 4 (fun _ => rfl) l
 unfold OrdM.val
 refine f146_ok ?_
 unfold f146
 refine knew_of fun w2 h2 hs2 hb2 => ?_
 have hb2 : blk w2 w.heap.size = some (.cells x.cells.toArray 278) := hb2
 have hh2 := h2.get hh (fun h => h)
 rw [keq_ptr_nil ptOrd]
 refine kB_at ?_
 refine kIf_F rfl ?_
 refine kldN_at (cs := x.cells) hb2 rfl (by omega) ?_
 have his := oIs_spec hh2 (by omega) x hx
 rw [OrdM.val] at his
 refine kcall_of his ?_
 rintro v w10 ⟨rfl, h10⟩
 refine not_at ?_
 rw [decT hb]
 refine kB_at ?_
 refine kIf_F rfl ?_
 have md : Same w10 w10.drew := (Mod.refl (fun _ => False) _).drew
 have mw : Same w w10.drew := (h2.trans h10).trans md
 have hhd := mw.get hh (fun h => h)
 have hbd := (h10.trans md).get hb2 (fun h => h)
 have hz := mw.size
 generalize w10.drew = wd at *
 refine kN_at ?_
 refine kfld_of ?_
 refine kld_of (v := natV gv) hhd rfl ?_
 refine kG_of rfl ?_
 refine kN_at ?_
 refine kfld_of ?_
 refine kld_of (v := natV o.most) hhd rfl ?_
 refine kG_of rfl ?_
 refine geq_at ?_
 rw [decF (by omega)]
 refine kB_at ?_
 refine kIf_F rfl ?_
 unfold f146_0
 refine kN_at ?_
 refine kfld_of ?_
 refine kld_of (v := natV gv) hhd rfl ?_
 refine add_at (by omega) (by omega) ?_
 refine kN_at ?_
 refine kfld_of ?_
 refine kst1_of hhd rfl rfl (by show 4 < 6; omega) fun w32 h32 hs32 hb32 => ?_
 have hb32 : blk w32 o.bo = some (.cells (o.cells sv (gv + 1) dr) 163) := hb32
 have m32 : Mod (fun k => k = o.bo) w w32 := (Mod.of_same mw).trans h32
 have md2 : Same w32 w32.drew := (Mod.refl (fun _ => False) _).drew
 have m32d := m32.trans (Mod.of_same md2)
 have hhe := md2.get hb32 (fun h => h)
 have hbe := md2.get (h32.get hbd (by omega)) (fun h => h)
 have hOd : Own w32.drew sv 4 (l.flatMap OrdM.cells) := hO.mod m32d (fun k hk e => (hv k hk).2.1 e)
 have hzd := m32d.size
 generalize w32.drew = we at *
 refine kN_at ?_
 refine kfld_of ?_
 refine kld_of (v := sv) hhe rfl ?_
 refine kG_of rfl ?_
 refine kldN_at (cs := x.cells) hbe rfl (by omega) ?_
 refine kG_of rfl ?_
 refine kbldS_of (cs := x.cells) rfl fun w37 h37 hs37 hb37 => ?_
 refine kG_of (kld_of (v := sv) (h37.get hhe (fun h => h)) rfl ⟨rfl, rfl⟩) ?_
 refine ksem_append apOrd (by omega) (hOd.same h37) (Src.ofSlIs (hk := slOrd_is.choose_spec) 1 (SlIs.blk hb37 rfl) rfl) (by simp [OrdM.cells, hfl]; omega) (by simp [OrdM.cells, hfl]; omega) ?_
 intro v' w39 hO39 m39 hf39
 have hh39 := m39.get (h37.get hhe (fun h => h)) (fun hk => (hv _ hk).2.1 rfl)
 refine kN_at ?_
 refine kfld_of ?_
 obtain ⟨a', n', c', rfl, _, _⟩ := hO39.is
 refine kst1_of hh39 rfl rfl (by show 3 < 6; omega) fun w41 h41 hs41 hb41 => ?_
 have hb41 : blk w41 o.bo = some (.cells (o.cells (.slice a' n' c') (gv + 1) dr) 163) := hb41
 have m37 : Mod (fun k => k = o.bo) w w37 := m32d.trans (Mod.of_same h37)
 have hz37 := m37.size
 have hvn : ∀ k, vblk (.slice a' n' c') k → (vblk sv k ∨ w.heap.size ≤ k) := fun k hk => by
  rcases hf39 k hk with h | h
  ·exact .inl h
  ·exact .inr (by omega)
 have mall : Mod U w w41 := ((m37.mono fun k _ e => by rw [e]; exact hown).trans (m39.mono fun k _ hk => (hv k hk).1)).trans (h41.mono fun k _ e => by rw [e]; exact hown)
 have hcb : ∀ k f, o.ca = some ⟨k, f, none⟩ → ¬ (k = o.bo) ∧ ¬ vblk sv k := fun k f e => ⟨(hca k f e).2, fun hk => (hv k hk).2.2 f e⟩
 refine ⟨rfl, ⟨⟨.slice a' n' c', hb41, ?_, fun k hk => ?_⟩, ?_, .inl hown, fun k f e => ⟨.inl (hca k f e).1, (hca k f e).2⟩, hgood, hrv, fun y hy => ?_⟩, mall⟩
 ·rw [List.flatMap_append]
  have : Own w39 (.slice a' n' c') 4 (l.flatMap OrdM.cells ++ [x].flatMap OrdM.cells) := by simpa using hO39
  refine this.mod h41 fun k hk e => ?_
  rcases hvn k hk with h | h
  ·exact (hv k h).2.1 e
  ·omega
 ·rcases hvn k hk with h | h
  ·exact ⟨.inl (hv k h).1, (hv k h).2⟩
  ·refine ⟨.inr h, by omega, fun f e => ?_⟩
   have := sl_lt hcm h0 (by omega) k f e
   omega
 ·exact ((hcm.mod m37 (fun k f e => (hcb k f e).1)).mod m39 (fun k f e => (hcb k f e).2)).mod h41 (fun k f e => (hcb k f e).1)
 ·rcases List.mem_append.1 hy with hy | hy
  ·exact hfit y hy
  ·have : y = x := by simpa using hy
   subst this; exact ⟨hb, hx⟩
end
section
attribute [local irreducible] kO kB kStr kInt kN kG kIf kfld kld kldN kst knew kmap kbld kbldS kext kcnv klenStr klen kcap kprt kprtN kbool kint kstr keq kun ksl kix kiv kta kmk kmm ksem ksemU kextf kcallV kcallM kcall kL
end
section
attribute [local irreducible] kO kB kStr kInt kN kG kIf kfld kld kldN kst knew kmap kbld kbldS kext kcnv klenStr klen kcap kprt kprtN kbool kint kstr keq kun ksl kix kiv kta kmk kmm ksem ksemU kextf kcallV kcallM kcall kL
end
end Go.Proofs.YtenokhokboicnaaGreatDoor
namespace Go.Ev
open Go
section
section
variable {P : Program} {kt : TypeId}
theorem text_beq (a b : ByteArray) : (a == b) = decide (a = b) := by
 cases a with | mk a =>
 cases b with | mk b =>
 show (a == b) = _
 rw [Bool.eq_iff_iff, decide_eq_true_eq, ByteArray.mk.injEq]
 exact beq_iff_eq
theorem findNow_entsS (n : ByteArray) : ∀ (i j : Nat) (kv : List (ByteArray × Value)), Instr.findNow .string (.string n) (entsG Value.string i kv) j = some ((lkG n kv).map fun x => (j + x.1, x.2))
 | _, _, [] => by simp [entsG, Instr.findNow, lkG]
 | i, j, (m, v) :: r => by
  simp only [entsG, Instr.findNow, Instr.sameNow, lkG]
  by_cases h : n = m
  ·subst h
   rw [text_beq, decide_eq_true rfl]; simp
  ·rw [text_beq, decide_eq_false h]
   simp only [h, if_false]
   rw [findNow_entsS n (i + 1) (j + 1) r]
   cases lkG n r with
   | none => simp
   | some x => simp; omega
theorem KeyT.string (hk : P.underlying kt = some .string) : KeyT P kt Value.string where
 find n kv w := by
  simp only [Instr.findKey, Sem.run_bind, run_underlying hk, Result.andThen_ok, findNow_entsS, Sem.run_pure]
  cases lkG n kv <;> simp
 check e a w := by
  rw [Instr.checkKey]
  simp [run_underlying hk]
 stays a := by simp [Instr.sameBits, text_beq]
end
end
end Go.Ev
namespace Go.Proofs.YtenokhokboicnaaGreatDoor
open Go Go.Ev
section
attribute [local irreducible] kO kB kStr kInt kN kG kIf kfld kld kldN kst knew kmap kbld kbldS kext kcnv klenStr klen kcap kprt kprtN kbool kint kstr keq kun ksl kix kiv kta kmk kmm ksem ksemU kextf kcallV kcallM kcall kL
theorem mapGoo : Tryz.prog.underlying 244 = some (.map 9 3) := by kernel_rfl
theorem strKey : Tryz.prog.underlying 9 = some .string := by kernel_rfl
theorem gNew {w : World} {a : Option Addr} {L : List Comp} {cp : Nat} {ra : Option Addr} {R : List ResM} {rc : Nat} (hs : SlIs w a L.length 7 (L.flatMap Comp.cells)) (hG : GoodSc L) (hr : SlIs w ra R.length 2 (R.flatMap ResM.cells)) (hGR : GoodR L R) :
  Meets Tryz.prog 64 #[scV a L.length cp (.slice ra R.length rc)] w fun v w' => (∃ g gm gs, v = .tuple #[.pointer (some ⟨g, 0, none⟩), .nilIface] ∧ w.heap.size ≤ g ∧ blk w' g = some (.cells #[gm, gs, .int .i64 0] 246) ∧ Own w' gs 1 ((R.map (·.value)).map (Value.int .i64)) ∧ ∀ k, vblk gs k → w.heap.size ≤ k ∧ k ≠ g) ∧ Same w w' := by
 have hlR := hGR.len
 rw [scV]
 refine f64_ok ?_
 unfold f64
 refine knew_of fun w2 h2 hs2 hb2 => ?_
 have hb2 : blk w2 w.heap.size = some (.cells #[.slice a L.length cp, .slice ra R.length rc] 25) := hb2
 refine kldN_at (cs := [.slice a L.length cp, .slice ra R.length rc]) hb2 rfl (by omega) ?_
 have hck := checkR_spec (ra := ra) (rc := rc) (cp := cp) (hs.same h2) hG (hr.same h2) hGR
 rw [scV] at hck
 refine kcall_of hck ?_
 rintro v w5 ⟨rfl, h5⟩
 rw [keq_nil_nil' ifErr]
 refine kB_at ?_
 refine kIf_F rfl ?_
 unfold f64_0
 refine kmap_of fun w11 h11 hs11 hm11 => ?_
 refine kbld_of (cs := [.map (some w5.heap.size), .slice none 0 0, .int .i64 0]) rfl ?_
 refine knew_of fun w14 h14 hs14 hb14 => ?_
 have hb14 : blk w14 w11.heap.size = some (.cells #[.map (some w5.heap.size), .slice none 0 0, .int .i64 0] 246) := hb14
 have m14 := (h2.trans h5).trans (h11.trans h14)
 have hz2 := h2.size
 have hz5 := h5.size
 have hmp : MapG Value.string w14 w5.heap.size [] := (show MapG Value.string w11 w5.heap.size [] from hm11 .i64).same h14
 refine kfld_of ?_
 refine kld_of (v := .slice ra R.length rc) ((h5.trans (h11.trans h14)).get hb2 (fun h => h)) rfl ?_
 refine klen_at ?_
 refine kL1_of R.length (fun j y wr => y = .int .i64 j ∧ ∃ gs kv, blk wr w11.heap.size = some (.cells #[.map (some w5.heap.size), gs, .int .i64 0] 246) ∧ MapG Value.string wr w5.heap.size kv ∧ Own wr gs 1 (((R.take j).map (·.value)).map (Value.int .i64)) ∧ (∀ k, vblk gs k → w14.heap.size ≤ k) ∧ Same w wr ∧ w14.heap.size ≤ wr.heap.size) ⟨lI1_0 ⟨rfl, _, _, hb14, hmp, Own.nil _ _, (fun k hk => by obtain ⟨_, _, _, e⟩ := hk; cases e), m14, Nat.le_refl _⟩, fun y wr hx => ?_⟩
 obtain ⟨j, hj, ⟨rfl, gs, kv, hbg, hmr, hO, hgk, hwr, hzr⟩, hJ⟩ := lI1_step hx
 unfold f64_1
 refine lss_at ?_
 refine kB_at ?_
 refine kIf_dec (fun hlt => ?_) (fun hge => ?_)
 ·have hlt : j < R.length := by omega
  have htk : ((R.take (j + 1)).map (·.value)).map (Value.int .i64) = ((R.take j).map (·.value)).map (Value.int .i64) ++ [.int .i64 (R[j]).value] := by
   rw [List.take_succ_eq_append_getElem hlt, List.map_append, List.map_append]; rfl
  have hlo : (((R.take j).map (·.value)).map (Value.int .i64)).length = j := by
   rw [List.length_map, List.length_map, List.length_take]; omega
  unfold f64_2
  refine kixldN_of (F := ResM.cells) (sz := 2) (fun _ => rfl) (by omega) (hr.same hwr) hlt rfl ?_
  refine knew_of fun w23 h23 hs23 hb23 => ?_
  refine kst_of (vs := (R[j]).cells) hb23 rfl rfl rfl (by simp) (by simp [ResM.cells]) fun w24 h24 hs24 hb24 => ?_
  have hb24 : blk w24 wr.heap.size = some (.cells (R[j]).cells.toArray 82) := hb24
  have m24 : Same wr w24 := h23.trans' (h24.mono fun k _ e => .inr (by omega))
  have md : Same w24 w24.drew := (Mod.refl (fun _ => False) _).drew
  have mrd := m24.trans md
  have hb24 := md.get hb24 (fun h => h)
  have hgd := mrd.get hbg (fun h => h)
  have hmd := hmr.same mrd
  have hOd := hO.same mrd
  have hzd := mrd.size
  generalize w24.drew = wd at *
  refine kN_at ?_
  refine kfld_of ?_
  refine kld_of (v := .map (some w5.heap.size)) hgd rfl ?_
  refine kG_of rfl ?_
  refine kfld_of ?_
  refine kld_of (v := .string (R[j]).name) hb24 rfl ?_
  refine kG_of rfl ?_
  refine kmapUpG mapGoo (KeyT.string strKey) hmd fun w30 h30 hs30 hm30 => ?_
  have md2 : Same w30 w30.drew := (Mod.refl (fun _ => False) _).drew
  have hr30 := md2.get (h30.get hb24 (by omega)) (fun h => h)
  have hg30 := md2.get (h30.get hgd (by omega)) (fun h => h)
  have hO30 := (hOd.mod h30 fun k hk e => by have := hgk k hk; omega).same md2
  have hm30 := hm30.same md2
  have n30 : Mod (fun k => k = w5.heap.size) wd w30.drew := h30.trans (Mod.of_same md2)
  have hz30 := n30.size
  generalize w30.drew = we at *
  refine kN_at ?_
  refine kfld_of ?_
  refine kld_of (v := gs) hg30 rfl ?_
  refine kG_of rfl ?_
  refine kfld_of ?_
  refine kld_of (v := .int .i64 (R[j]).value) hr30 rfl ?_
  refine kG_of rfl ?_
  refine kbldS_of (cs := [.int .i64 (R[j]).value]) rfl fun w36 h36 hs36 hb36 => ?_
  refine kG_of (kld_of (v := gs) (h36.get hg30 (fun h => h)) rfl ⟨rfl, rfl⟩) ?_
  refine ksem_append apNums (by omega) (hO30.same h36) (Src.ofSlIs (hk := slNums_is.choose_spec) 1 (SlIs.blk hb36 rfl) rfl) (by rw [hlo]; simp; omega) (by rw [hlo]; simp; omega) ?_
  intro v' w38 hO38 m38 hf38
  have hgk2 : ∀ k, vblk v' k → w14.heap.size ≤ k := fun k hk => by
   rcases hf38 k hk with h | h
   ·exact hgk k h
   ·omega
  have hg38 := m38.get (h36.get hg30 (fun h => h)) (fun hk => by have := hgk _ hk; omega)
  obtain ⟨av, nv, cv, rfl, _, _⟩ := hO38.is
  refine kN_at ?_
  refine kfld_of ?_
  refine kst1_of hg38 rfl rfl (by show 1 < 3; omega) fun w40 h40 hs40 hb40 => ?_
  have hb40 : blk w40 w11.heap.size = some (.cells #[.map (some w5.heap.size), .slice av nv cv, .int .i64 0] 246) := hb40
  unfold f64_3
  refine add_at (by omega) (by omega) ?_
  rw [cast_succ]
  have hz38 := m38.size
  have hz36 := h36.size
  refine hJ _ _ hlt ⟨rfl, .slice av nv cv, _, hb40, ((hm30.same h36).mod m38 (fun hk => by have := hgk _ hk; omega)).mod h40 (by omega), ?_, hgk2, ?_, by omega⟩
  ·rw [htk]
   exact (show Own w38 (.slice av nv cv) 1 (((R.take j).map (·.value)).map (Value.int .i64) ++ [.int .i64 (R[j]).value]) from hO38).mod h40 fun k hk e => by have := hgk2 k hk; omega
  ·exact (((hwr.trans mrd).trans' (n30.mono fun k _ e => .inr (by omega))).trans h36).trans' ((m38.mono fun k _ e => .inr (by have := hgk k e; omega)).trans (h40.mono fun k _ e => .inr (by omega)))
 ·have : j = R.length := by omega
  subst this
  unfold f64_4
  rw [List.take_length] at hO
  exact ⟨⟨_, _, gs, rfl, by omega, hbg, hO, fun k hk => by have := hgk k hk; have := lt_of_blk hb14; omega⟩, hwr⟩
theorem oNewR {w : World} {a : Option Addr} {L : List Comp} {cp : Nat} {ra : Option Addr} {R : List ResM} {rc : Nat} (hs : SlIs w a L.length 7 (L.flatMap Comp.cells)) (hG : GoodSc L) (hr : SlIs w ra R.length 2 (R.flatMap ResM.cells)) (hGR : GoodR L R) (h0 : 0 < L.length) {most : Nat} (hm : most ≤ 64) :
  Meets Tryz.prog 33 #[scV a L.length cp (.slice ra R.length rc), .int .i64 most] w fun v w' => ∃ o : OC, v = .tuple #[.pointer (some ⟨o.bo, 0, none⟩), .nilIface] ∧ o.L = L ∧ o.most = most ∧ OAt o (fun k => w.heap.size ≤ k) w' [] 0 0 ∧ Same w w' := by
 have hl := hG.len
 rw [scV]
 refine f33_ok ?_
 unfold f33
 refine knew_of fun w2 h2 hs2 hb2 => ?_
 have hb2 : blk w2 w.heap.size = some (.cells #[.slice a L.length cp, .slice ra R.length rc] 25) := hb2
 refine kldN_at (cs := [.slice a L.length cp, .slice ra R.length rc]) hb2 rfl (by omega) ?_
 have hck := checkR_spec (ra := ra) (rc := rc) (cp := cp) (hs.same h2) hG (hr.same h2) hGR
 rw [scV] at hck
 refine kcall_of hck ?_
 rintro v w5 ⟨rfl, h5⟩
 rw [keq_nil_nil' ifErr]
 refine kB_at ?_
 refine kIf_F rfl ?_
 unfold f33_0
 refine lss_at ?_
 rw [decF (by omega)]
 refine kB_at ?_
 refine kIf_T rfl ?_
 refine gtr_at ?_
 rw [decF (by omega)]
 unfold f33_1
 refine kB_at ?_
 refine kIf_F rfl ?_
 unfold f33_2
 refine kfld_of ?_
 refine kld_of (v := .slice a L.length cp) (h5.get hb2 (fun h => h)) rfl ?_
 have m5 := h2.trans h5
 have hz5 := m5.size
 refine kcall_of (cloneC_spec (hs.same m5) (by omega)) ?_
 rintro v w19 ⟨hO19, h19, hf19⟩
 obtain ⟨a1, n1, c1, rfl, hs19, _⟩ := hO19.is
 have hfl := flat_len Comp.cells 7 (fun _ => rfl) L
 have hn1 : n1 = L.length := by have h1 := hs19.1; omega
 subst hn1
 refine kbld_of (cs := [.slice a1 L.length c1, .slice none 0 0]) rfl ?_
 refine knew_of fun w22 h22 hs22 hb22 => ?_
 refine kst_of (vs := [.slice a1 L.length c1, .slice none 0 0]) hb22 rfl rfl rfl (by simp) (by simp) fun w23 h23 hs23 hb23 => ?_
 have hb23 : blk w23 w19.heap.size = some (.cells #[.slice a1 L.length c1, .slice none 0 0] 25) := hb23
 have m23 : Same w19 w23 := h22.trans' (h23.mono fun k _ e => .inr (by omega))
 refine kldN_at (cs := [.slice a1 L.length c1, .slice none 0 0]) hb23 rfl (by omega) ?_
 refine kbld_of (cs := [.slice a1 L.length c1, .slice none 0 0, natV most, .slice none 0 0, natV 0, natV 0]) rfl ?_
 refine knew_of fun w27 h27 hs27 hb27 => ?_
 have hz19 := h19.size
 have hz23 := m23.size
 have hlt1 := sl_lt hs19 h0 (by omega)
 refine ⟨⟨w23.heap.size, a1, c1, .slice none 0 0, L, most⟩, rfl, rfl, rfl, ⟨⟨.slice none 0 0, hb27, Own.nil _ _, fun k hk => by obtain ⟨_, _, _, e⟩ := hk; cases e⟩, hs19.same (m23.trans h27), by show w.heap.size ≤ w23.heap.size; omega, fun k f e => ?_, hG, rfl, fun x hx => by cases hx⟩, (m5.trans h19).trans (m23.trans h27)⟩
 have e : a1 = some ⟨k, f, none⟩ := e
 have h1 := hf19 k ⟨f, L.length, c1, by rw [e]⟩
 have h2 := hlt1 k f e
 exact ⟨by omega, by show k ≠ w23.heap.size; omega⟩
theorem newS_link (L : List Comp) (most : Nat) : Link (newS L most) ⟨[], 1⟩ where
 live x hx := by cases hx
 all i g hg := by
  have : (List.replicate most ((0 : Int), false))[i]? = some (g, true) := hg
  obtain ⟨_, e⟩ := List.getElem?_eq_some_iff.1 this
  rw [List.getElem_replicate] at e; cases e
 tm := by simp [newS, newS0, layS]
 cnt := by simp [newS, newS0, layS]
theorem wNew_tail {g : Nat} {gm gs : Value} {w0 w : World} {o : Lab} {b : Nat} {p : Ptrs} {L : List Comp} {most : Nat} (hG : GoodSc L) (C : Cur w0 o w b p (newS L most) 0) {a : Option Addr} {cp : Nat} {ra : Option Addr} {rn rc : Nat} (hs : SlIs w a L.length 7 (L.flatMap Comp.cells)) {bs : Nat} (hbs : blk w bs = some (.cells #[.slice a L.length cp, .slice ra rn rc] 25))
  {a1 : Option Addr} {c1 : Nat} {a2 : Option Addr} {n2 c2 : Nat} (hs1 : SlIs w a1 L.length 7 (L.flatMap Comp.cells)) (ha1 : ∀ k f, a1 = some ⟨k, f, none⟩ → w0.heap.size ≤ k ∧ k < w.heap.size ∧ o k = none) (hag : ∀ k f, a1 = some ⟨k, f, none⟩ → k ≠ g ∧ ¬ vblk gs k) (hsg : ∀ k, vblk gs k → k ≠ g) {bc : Nat} (hbc : blk w bc = some (.cells #[.slice a1 L.length c1, .slice a2 n2 c2] 25)) (seed : Int) {Rv : List Int} (hg : blk w g = some (.cells #[gm, gs, .int .i64 0] 246)) (hglo : w0.heap.size ≤ g ∧ o g = none) (hgo : Own w gs 1 (Rv.map (Value.int .i64))) (hgs : ∀ k, vblk gs k → w0.heap.size ≤ k ∧ o k = none) {Q : Value → World → Prop}
  (hQ : ∀ (c : WC) w', c.L = L → c.frame = 0 → c.seed = seed → c.rolled = rollF (L.map (·.rb)) → c.R = Rv → WdAt c w0 c.mine w' (newS L most) 0 ⟨[], 1⟩ → Q (.tuple #[.pointer (some ⟨c.bw, 0, none⟩), .nilIface]) w') :
  f32_2 (.int .i64 seed) (.pointer (some ⟨bs, 0, none⟩)) (ptrV b) (.pointer (some ⟨g, 0, none⟩)) (.pointer (some ⟨bc, 0, none⟩)) Q w := by
 have hl := hG.len
 rw [ptrV]
 unfold f32_2
 have md : Same w w.drew := (Mod.refl (fun _ => False) _).drew
 have hbs := md.get hbs (fun h => h)
 have hbc := md.get hbc (fun h => h)
 have C := C.loc md
 have hgd := md.get hg (fun h => h)
 have hgl := lt_of_blk hgd
 have hs := hs.same md
 have hs1 := hs1.same md
 have hzd := md.size
 have hwz : w.heap.size = w.drew.heap.size := rfl
 generalize w.drew = wd at *
 refine kldN_at (cs := [.slice a1 L.length c1, .slice a2 n2 c2]) hbc rfl (by omega) ?_
 refine kG_of rfl ?_
 refine kcall_of (bdNew wd) ?_
 rintro v w35 ⟨bb, rfl, hB, h35⟩
 refine kG_of (kldN_at (cs := [.slice a1 L.length c1, .slice a2 n2 c2]) (h35.get hbc (fun h => h)) rfl (by omega) ⟨rfl, rfl⟩) ?_
 refine kldN_at (cs := [.slice a L.length cp, .slice ra rn rc]) (h35.get hbs (fun h => h)) rfl (by omega) ?_
 refine kG_of rfl ?_
 refine kG_of (kldN_at (cs := [.slice a L.length cp, .slice ra rn rc]) hbs rfl (by omega) ⟨rfl, rfl⟩) ?_
 refine kcall_of (Rollback_spec L (by omega) a cp (.slice ra rn rc) w35 (hs.same h35) rfl) ?_
 rintro v w38 ⟨rfl, h38⟩
 refine kG_of (kldN_at (cs := [.slice a1 L.length c1, .slice a2 n2 c2]) ((h35.trans h38).get hbc (fun h => h)) rfl (by omega) ⟨rfl, rfl⟩) ?_
 refine kbld_of (cs := [.slice a1 L.length c1, .slice a2 n2 c2, .pointer (some ⟨b, 0, none⟩), .pointer (some ⟨bb, 0, none⟩), .pointer (some ⟨g, 0, none⟩), msk (rollF (L.map (·.rb))), .int .i64 0, .int .i64 seed, .pointer none]) rfl ?_
 refine knew_of fun w41 h41 hs41 hb41 => ?_
 have m41 := (h35.trans h38).trans h41
 have hz35 := h35.size
 have hz38 := h38.size
 have hz0 := C.same.size
 refine hQ ⟨w38.heap.size, b, bb, a1, c1, .slice a2 n2 c2, g, gm, gs, .int .i64 0, Rv, L, rollF (L.map fun x : Comp => x.rb), 0, seed⟩ w41 rfl rfl rfl rfl rfl ⟨hb41, fun k hk => hk, hs1.same m41, m41.get hgd (fun h => h), hgo.same (md.trans m41), rfl, hG, rollF_lt _, ⟨o, p, fun k => wd.heap.size ≤ k ∧ k < w35.heap.size, C.loc m41, (hB.mono (U' := fun k => wd.heap.size ≤ k ∧ k < w35.heap.size) fun k hk hu => ⟨hu, hk⟩).same (h38.trans h41), fun k hk => ⟨by omega, C.hi k hk.1, fun hx => ?_⟩, fun k hx => ?_⟩, newS_link L most, rfl, ⟨0, rfl⟩, fun k hk => ⟨hsg k hk, by have := hgo.vblk_lt hk; show k ≠ w38.heap.size; omega, fun f e => (hag k f e).2 hk⟩, by show g ≠ w38.heap.size; omega, fun k f e => ⟨(hag k f e).1, by have := (ha1 k f e).2.1; show k ≠ w38.heap.size; omega⟩⟩
 ·have hx : k = w38.heap.size ∨ (∃ f, a1 = some ⟨k, f, none⟩) ∨ k = g ∨ vblk gs k := hx
  rcases hx with e | ⟨f, e⟩ | e | e
  ·omega
  ·have := (ha1 k f e).2.1; omega
  ·omega
  ·have := hgo.vblk_lt e; omega
 ·have hx : k = w38.heap.size ∨ (∃ f, a1 = some ⟨k, f, none⟩) ∨ k = g ∨ vblk gs k := hx
  rcases hx with e | ⟨f, e⟩ | e | e
  ·exact ⟨by omega, by omega, C.hi k (by omega)⟩
  ·obtain ⟨h1, h2, h3⟩ := ha1 k f e
   exact ⟨h1, by omega, h3⟩
  ·rw [e]; exact ⟨hglo.1, by omega, hglo.2⟩
  ·exact ⟨(hgs k e).1, by have := hgo.vblk_lt e; omega, (hgs k e).2⟩
theorem wNewR {w : World} (hD : DeAt w) {a : Option Addr} {L : List Comp} {cp : Nat} {ra : Option Addr} {R : List ResM} {rc : Nat} (hs : SlIs w a L.length 7 (L.flatMap Comp.cells)) (hG : GoodSc L) (hr : SlIs w ra R.length 2 (R.flatMap ResM.cells)) (hGR : GoodR L R) (h0 : 0 < L.length) {most : Nat} (hm : most ≤ 64) (seed : Int) :
  Meets Tryz.prog 32 #[scV a L.length cp (.slice ra R.length rc), .int .i64 most, .int .i64 seed] w fun v w' => ∃ c : WC, v = .tuple #[.pointer (some ⟨c.bw, 0, none⟩), .nilIface] ∧ c.L = L ∧ c.frame = 0 ∧ c.seed = seed ∧ c.rolled = rollF (L.map (·.rb)) ∧ c.R = R.map (·.value) ∧ WdAt c w c.mine w' (newS L most) 0 ⟨[], 1⟩ := by
 have hl := hG.len
 have hfl := flat_len Comp.cells 7 (fun _ => rfl) L
 have hsc : scV a L.length cp (.slice ra R.length rc) = .agg #[.slice a L.length cp, .slice ra R.length rc] := rfl
 rw [hsc]
 refine f32_ok ?_
 unfold f32
 refine knew_of fun w2 h2 hs2 hb2 => ?_
 have hb2 : blk w2 w.heap.size = some (.cells #[.slice a L.length cp, .slice ra R.length rc] 25) := hb2
 refine kldN_at (cs := [.slice a L.length cp, .slice ra R.length rc]) hb2 rfl (by omega) ?_
 have hsn := sNewR_spec (hD.same h2) (ra := ra) (rc := rc) (cp := cp) (hs.same h2) hG (hr.same h2) hGR hm
 rw [hsc] at hsn
 refine kcall_of hsn ?_
 rintro v w5 ⟨b, rfl, o, p, hP5, hlo5, hhi5, h5⟩
 have hz2 := h2.size
 have C5 : Cur w o w5 b p (newS L most) 0 := ⟨hP5, newS_gs hm, fun k hk => hlo5 k (by omega), hhi5, h2.trans h5⟩
 refine kext_at rfl ?_
 refine kext_at rfl ?_
 rw [keq_nil_nil' ifErr]
 refine kB_at ?_
 refine kIf_F rfl ?_
 unfold f32_0
 have hb5 := h5.get hb2 (fun h => h)
 refine kldN_at (cs := [.slice a L.length cp, .slice ra R.length rc]) hb5 rfl (by omega) ?_
 have hgn := gNew (ra := ra) (rc := rc) (cp := cp) (hs.same C5.same) hG (hr.same C5.same) hGR
 rw [hsc] at hgn
 refine kcall_of hgn ?_
 rintro v w14 ⟨⟨g, gm, gs, rfl, hglo, hg14, hgo14, hgs14⟩, h14⟩
 refine kext_at rfl ?_
 refine kext_at rfl ?_
 rw [keq_nil_nil' ifErr]
 refine kB_at ?_
 refine kIf_F rfl ?_
 unfold f32_1
 have md : Same w14 w14.drew := (Mod.refl (fun _ => False) _).drew
 have Cd := C5.loc (h14.trans md)
 have hbd := (h14.trans md).get hb5 (fun h => h)
 have hgd := md.get hg14 (fun h => h)
 have hgo : w.heap.size ≤ g ∧ o g = none := ⟨by have := C5.same.size; omega, C5.hi g hglo⟩
 have hgsd := hgo14.same md
 have hgsl : ∀ k, vblk gs k → w.heap.size ≤ k ∧ o k = none := fun k hk => ⟨by have := (hgs14 k hk).1; have := C5.same.size; omega, C5.hi k (hgs14 k hk).1⟩
 have hlR := hGR.len
 generalize w14.drew = wd at *
 have hsd := hs.same Cd.same
 have hrd := hr.same Cd.same
 have fin : ∀ (w' : World) (a1 : Option Addr) (c1 : Nat) (a2 : Option Addr) (n2 c2 : Nat) (bc : Nat), Same wd w' → SlIs w' a1 L.length 7 (L.flatMap Comp.cells) → (∀ k f, a1 = some ⟨k, f, none⟩ → wd.heap.size ≤ k) → blk w' bc = some (.cells #[.slice a1 L.length c1, .slice a2 n2 c2] 25) →
   f32_2 (.int .i64 seed) (.pointer (some ⟨w.heap.size, 0, none⟩)) (ptrV b) (.pointer (some ⟨g, 0, none⟩)) (.pointer (some ⟨bc, 0, none⟩)) (fun v w' => ∃ c : WC, v = .tuple #[.pointer (some ⟨c.bw, 0, none⟩), .nilIface] ∧ c.L = L ∧ c.frame = 0 ∧ c.seed = seed ∧ c.rolled = rollF (L.map (·.rb)) ∧ c.R = R.map (·.value) ∧ WdAt c w c.mine w' (newS L most) 0 ⟨[], 1⟩) w' := by
  intro w' a1 c1 a2 n2 c2 bc m hs1 ha1 hbc
  have hz := Cd.same.size
  exact wNew_tail hG (Cd.loc m) (hsd.same m) (m.get hbd (fun h => h)) hs1 (fun k f e => ⟨by have := ha1 k f e; omega, sl_lt hs1 h0 (by omega) k f e, Cd.hi k (ha1 k f e)⟩) (fun k f e => ⟨by have := ha1 k f e; have := lt_of_blk hgd; omega, fun hv => by have := ha1 k f e; have := hgsd.vblk_lt hv; omega⟩) (fun k hk => (hgs14 k hk).2) hbc seed (m.get hgd (fun h => h)) hgo (hgsd.same m) hgsl fun c w'' e1 e2 e3 e4 e5 hW => ⟨c, rfl, e1, e2, e3, e4, e5, hW⟩
 rw [ptrV] at fin ⊢
 refine ⟨?_, ?_⟩
 ·refine kfld_of ?_
  refine kld_of (v := .slice a L.length cp) hbd rfl ?_
  refine kG_of rfl ?_
  refine kcall_of (cloneC_spec hsd (by omega)) ?_
  rintro v w24 ⟨hO24, h24, hf24⟩
  obtain ⟨a1, n1, c1, rfl, hs24, _⟩ := hO24.is
  have hn1 : n1 = L.length := by have h1 := hs24.1; omega
  subst hn1
  have ha1 : ∀ k f, a1 = some ⟨k, f, none⟩ → wd.heap.size ≤ k := fun k f e => hf24 k ⟨f, L.length, c1, by rw [e]⟩
  have hb24 := h24.get hbd (fun h => h)
  refine ⟨?_, ?_⟩
  ·refine kfld_of ?_
   refine kld_of (v := .slice ra R.length rc) hb24 rfl ?_
   refine kG_of rfl ?_
   refine kG_of (kld_of (v := .slice ra R.length rc) hbd rfl ⟨rfl, rfl⟩) ?_
   refine kcall_of (cloneRR_spec (hrd.same h24) (by omega)) ?_
   rintro v w28 ⟨⟨a2, n2, c2, rfl⟩, h28⟩
   refine knew_of fun w30 h30 hs30 hb30 => ?_
   have hb30' := (h28.trans h30).get hb24 (fun h => h)
   refine kG_of (kld_of (v := .slice ra R.length rc) hb30' rfl ⟨rfl, rfl⟩) ?_
   refine kG_of (kld_of (v := .slice a L.length cp) hb30' rfl ⟨rfl, rfl⟩) ?_
   refine kbld_of (cs := [.slice a1 L.length c1, .slice a2 n2 c2]) rfl ?_
   refine kst_of (vs := [.slice a1 L.length c1, .slice a2 n2 c2]) hb30 rfl rfl rfl (by simp) (by simp) fun w32 h32 hs32 hb32 => ?_
   have m32 : Same w28 w32 := h30.trans' (h32.mono fun k _ e => .inr (by omega))
   exact fin w32 a1 c1 _ _ _ _ (h24.trans (h28.trans m32)) (hs24.same (h28.trans m32)) ha1 hb32
  ·refine knew_of fun w49 h49 hs49 hb49 => ?_
   have hb49' := h49.get hb24 (fun h => h)
   refine kG_of (kld_of (v := .slice a L.length cp) hb49' rfl ⟨rfl, rfl⟩) ?_
   refine kfld_of ?_
   refine kld_of (v := .slice ra R.length rc) hb49' rfl ?_
   refine kG_of rfl ?_
   refine kG_of (kld_of (v := .slice ra R.length rc) hb24 rfl ⟨rfl, rfl⟩) ?_
   refine kG_of (kld_of (v := .slice ra R.length rc) hbd rfl ⟨rfl, rfl⟩) ?_
   refine kcall_of (cloneRR_spec (hrd.same (h24.trans h49)) (by omega)) ?_
   rintro v w53 ⟨⟨a2, n2, c2, rfl⟩, h53⟩
   refine kbld_of (cs := [.slice a1 L.length c1, .slice a2 n2 c2]) rfl ?_
   refine kst_of (vs := [.slice a1 L.length c1, .slice a2 n2 c2]) (h53.get hb49 (fun h => h)) rfl rfl rfl (by simp) (by simp) fun w55 h55 hs55 hb55 => ?_
   have m55 : Same w24 w55 := (h49.trans h53).trans' (h55.mono fun k _ e => .inr (by omega))
   exact fin w55 a1 c1 _ _ _ _ (h24.trans m55) (hs24.same m55) ha1 hb55
 ·refine knew_of fun w60 h60 hs60 hb60 => ?_
  have hb60' := h60.get hbd (fun h => h)
  refine kfld_of ?_
  refine kld_of (v := .slice a L.length cp) hb60' rfl ?_
  refine kG_of rfl ?_
  refine kG_of (kld_of (v := .slice a L.length cp) hbd rfl ⟨rfl, rfl⟩) ?_
  refine kcall_of (cloneC_spec (hsd.same h60) (by omega)) ?_
  rintro v w64 ⟨hO64, h64, hf64⟩
  obtain ⟨a1, n1, c1, rfl, hs64, _⟩ := hO64.is
  have hn1 : n1 = L.length := by have h1 := hs64.1; omega
  subst hn1
  have ha1 : ∀ k f, a1 = some ⟨k, f, none⟩ → wd.heap.size ≤ k := fun k f e => by have := hf64 k ⟨f, L.length, c1, by rw [e]⟩; omega
  have hb64 := h64.get hb60' (fun h => h)
  refine kfld_of ?_
  refine kld_of (v := .slice ra R.length rc) hb64 rfl ?_
  refine kG_of rfl ?_
  refine kG_of (kld_of (v := .slice ra R.length rc) hb60' rfl ⟨rfl, rfl⟩) ?_
  refine kG_of (kld_of (v := .slice ra R.length rc) hbd rfl ⟨rfl, rfl⟩) ?_
  refine kcall_of (cloneRR_spec (hrd.same (h60.trans h64)) (by omega)) ?_
  rintro v w68 ⟨⟨a2, n2, c2, rfl⟩, h68⟩
  refine kbld_of (cs := [.slice a1 L.length c1, .slice a2 n2 c2]) rfl ?_
  have hz64 := h64.size
  have hz60 := h60.size
  have hz68 := h68.size
  refine kst_of (vs := [.slice a1 L.length c1, .slice a2 n2 c2]) ((h64.trans h68).get hb60 (fun h => h)) rfl rfl rfl (by simp) (by simp) fun w70 h70 hs70 hb70 => ?_
  have m70 : Same wd w70 := (h60.trans (h64.trans h68)).trans' (h70.mono fun k _ e => .inr (by omega))
  have hs70 : SlIs w70 a1 L.length 7 (L.flatMap Comp.cells) := (hs64.same h68).mod h70 fun k f e hk => by have := hf64 k ⟨f, L.length, c1, by rw [e]⟩; omega
  exact fin w70 a1 c1 _ _ _ _ m70 hs70 ha1 hb70
end
section
attribute [local irreducible] kO kB kStr kInt kN kG kIf kfld kld kldN kst knew kmap kbld kbldS kext kcnv klenStr klen kcap kprt kprtN kbool kint kstr keq kun ksl kix kiv kta kmk kmm ksem ksemU kextf kcallV kcallM kcall kL
theorem Pair.new {c : WC} {w0 : World} {o : OC} {fx : Nat → Prop} {w w' : World} {S : SM} {t : Nat} {B : BdM} {l : List OrdM} {gv dr : Nat} (h0 : 0 < o.L.length) (hW : WdAt c w0 fx w S t B) (m : Same w w') (hO : OAt o (fun k => w.heap.size ≤ k) w' l gv dr) : Pair c w0 o fx w' S t B l gv dr := by
 refine ⟨⟨_, _, hW.ext m, hO.cut h0, fun k hk => ⟨.inr hk, fun hx => ?_, fun e => ?_⟩, fun k hk => .inl hk⟩, h0⟩
 ·have := (hW.A.lt hx).2; omega
 ·have := (hW.A.lt (hW.fm k e)).2; omega
theorem Pair.orderX {c : WC} {w0 : World} {o : OC} {X fx U : Nat → Prop} {w w' : World} {S : SM} {t : Nat} {B : BdM} {l' : List OrdM} {gv' dr' : Nat} (h0 : 0 < o.L.length) (hW : WdAt c w0 fx w S t B) (hU : ∀ k, U k → fx k ∧ ¬ X k ∧ ¬ c.mine k) (hX : ∀ k, X k → fx k)
  (hO : OAt o U w' l' gv' dr') (m : Mod U w w') : Pair c w0 o (fun k => X k ∨ (w.heap.size ≤ k ∧ k < w'.heap.size)) w' S t B l' gv' dr' ∧ Mod (fun k => w0.heap.size ≤ k ∧ ¬ X k) w w' := by
 refine ⟨⟨⟨_, _, hW.other m (fun k hk => ⟨(hU k hk).1, (hU k hk).2.2⟩), hO, fun k hk => ⟨.inl (hU k hk).1, fun hx => ?_, (hU k hk).2.2⟩, fun k hk => ?_⟩, h0⟩, m.mono fun k _ hk => ⟨(hW.A.lt (hU k hk).1).1, (hU k hk).2.1⟩⟩
 ·rcases hx with hx | hx
  ·exact (hU k hk).2.1 hx
  ·have := (hW.A.lt (hU k hk).1).2; omega
 ·rcases hk with hk | hk
  ·exact .inl (hX k hk)
  ·exact .inr hk
theorem pAdd_bad {pr : Nat → Prop} {Sa : Nat → Addr} {c : WC} {w0 : World} (hL : LaidP pr Sa w0) (h1 : pr 1) {o : OC} {X : Nat → Prop} {w : World} {S : SM} {t : Nat} {B : BdM} {l : List OrdM} {gv dr : Nat} (h : Pair c w0 o X w S t B l gv dr) (x : OrdM) (hx : x.ok) (hb : ¬ x.fit o.L.length) :
  Meets Tryz.prog 146 #[.pointer (some ⟨o.bo, 0, none⟩), x.val] w fun v w' => ErrX Sa 1 w.heap.size v w' ∧ Same w w' := by
 have hs := h.same0
 obtain ⟨⟨fx, U, hW, hO, hU, hX⟩, h0⟩ := h
 exact oAdd_bad (hL.same hs) h1 hO x hx hb
theorem pAdd_full {pr : Nat → Prop} {Sa : Nat → Addr} {c : WC} {w0 : World} (hL : LaidP pr Sa w0) (h6 : pr 6) {o : OC} {X : Nat → Prop} {w : World} {S : SM} {t : Nat} {B : BdM} {l : List OrdM} {gv dr : Nat} (h : Pair c w0 o X w S t B l gv dr) (x : OrdM) (hx : x.ok) (hb : x.fit o.L.length) (hf : o.most ≤ gv) (hdr : dr ≤ 1000000) :
  Meets Tryz.prog 146 #[.pointer (some ⟨o.bo, 0, none⟩), x.val] w fun v w' => ErrX Sa 6 w.heap.size v w' ∧ Pair c w0 o (fun k => X k ∨ (w.heap.size ≤ k ∧ k < w'.heap.size)) w' S t B l gv (dr + 1) ∧ Mod (fun k => w0.heap.size ≤ k ∧ ¬ X k) w w' := by
 have hs := h.same0
 obtain ⟨⟨fx, U, hW, hO, hU, hX⟩, h0⟩ := h
 refine (oAdd_full hL h6 hs (fun k hk => (hW.A.lt (hU k hk).1).1) hO x hx hb hf hdr).mono ?_
 rintro v w' ⟨hE, hO', m⟩
 exact ⟨hE, Pair.orderX h0 hW hU hX hO' m⟩
theorem pAdd_ok {c : WC} {w0 : World} {o : OC} {X : Nat → Prop} {w : World} {S : SM} {t : Nat} {B : BdM} {l : List OrdM} {gv dr : Nat} (h : Pair c w0 o X w S t B l gv dr) (x : OrdM) (hx : x.ok) (hb : x.fit o.L.length) (hf : gv < o.most) (hmo : o.most ≤ 1000000) (hln : l.length ≤ 1000000) :
  Meets Tryz.prog 146 #[.pointer (some ⟨o.bo, 0, none⟩), x.val] w fun v w' => v = .nilIface ∧ Pair c w0 o X w' S t B (l ++ [x]) (gv + 1) dr ∧ Mod (fun k => w0.heap.size ≤ k ∧ ¬ X k) w w' := by
 obtain ⟨⟨fx, U, hW, hO, hU, hX⟩, h0⟩ := h
 refine (oAdd_ok hO x hx hb hf hmo hln h0).mono ?_
 rintro v w' ⟨rfl, hO', m⟩
 exact ⟨rfl, Pair.order h0 hW hU hX hO' m⟩
theorem wGet_ok {c : WC} {w0 : World} {fx : Nat → Prop} {w : World} {S : SM} {t : Nat} {B : BdM} (h : WdAt c w0 fx w S t B) {x : Int} {n : Nat} {y : Nat × EK} (hf : B.l.find? (fun z => decide (((z.1 : Nat) : Int) = x)) = some y) {q : Part} (hq : q ∈ partsOf S y.2.i.toNat) (hqc : q.comp = (n : Int)) :
  Meets Tryz.prog 192 #[.pointer (some ⟨c.bw, 0, none⟩), .int .i64 x, .int .i64 n] w fun v w' => v = .tuple #[.agg q.cells.toArray, .nilIface] ∧ Same w w' := by
 have hym := List.mem_of_find?_eq_some hf
 obtain ⟨i, hyi, hg⟩ := h.link.live y hym
 rw [hyi, Int.toNat_natCast] at hq
 refine f192_ok ?_
 unfold f192
 refine knew_of fun w2 h2 hs2 hb2 => ?_
 refine kcall_of (wEntity_ok (h.loc h2) hf) ?_
 rintro v w4 ⟨rfl, h4⟩
 unfold EK.v entV
 rw [hyi]
 refine kext_at rfl ?_
 refine kext_at rfl ?_
 refine knew_of fun w8 h8 hs8 hb8 => ?_
 refine kst_of (vs := [.int .i64 i, .int .i64 y.2.g]) hb8 rfl rfl rfl (by simp) (by simp) fun w9 h9 hs9 hb9 => ?_
 have hb9 : blk w9 w4.heap.size = some (.cells #[.int .i64 i, .int .i64 y.2.g] 176) := hb9
 have m9 : Same w4 w9 := h8.trans' (h9.mono fun k _ e => .inr (by omega))
 rw [keq_nil_nil' ifErr]
 refine kB_at ?_
 refine kIf_F rfl ?_
 unfold f192_0
 have md : Same w9 w9.drew := (Mod.refl (fun _ => False) _).drew
 have m29 : Same w2 w9.drew := (h4.trans m9).trans md
 have hd := h.loc (h2.trans m29)
 have hbd := md.get hb9 (fun h => h)
 have hb2d := m29.get hb2 (fun h => h)
 have hz2 := m29.size
 generalize w9.drew = wd at *
 have key : ∀ {w1 : World}, Same wd w1 → blk w1 c.bw = some (.cells c.cells 160) := fun m => m.get hd.here (fun h => h)
 have tail : ∀ (w1 : World) (bp : Nat), Same wd w1 → bp ≠ w.heap.size → blk w1 bp = some (.cells q.cells.toArray 102) → f192_1 (.pointer (some ⟨w.heap.size, 0, none⟩)) .nilIface (.pointer (some ⟨bp, 0, none⟩)) (fun v w' => v = .tuple #[.agg q.cells.toArray, .nilIface] ∧ Same w w') w1 := by
  intro w1 bp m hne hbp
  unfold f192_1
  rw [keq_nil_nil' ifErr]
  refine kB_at ?_
  refine kIf_F rfl ?_
  unfold f192_2
  refine kldN_at (cs := q.cells) hbp rfl (by omega) ?_
  refine kst_of (vs := q.cells) (m.get hb2d (fun h => h)) rfl rfl rfl (by simp) (by simp [Part.cells]) fun w33 h33 hs33 hb33 => ?_
  have hb33 : blk w33 w.heap.size = some (.cells q.cells.toArray 102) := hb33
  refine kldN_at (cs := q.cells) hb33 rfl (by omega) ?_
  exact ⟨rfl, ((h2.trans m29).trans m).trans' (h33.mono fun k _ e => .inr (by omega))⟩
 obtain ⟨o, p, U, C, hb, hU, hfx⟩ := hd.A
 have hget : ∀ w1, Same wd w1 → Meets Tryz.prog 225 #[.pointer (some ⟨c.bs, 0, none⟩), .agg #[.int .i64 i, .int .i64 y.2.g], .int .i64 n] w1 fun v w' => v = .tuple #[.agg q.cells.toArray, .nilIface] ∧ Same w1 w' := by
  intro w1 m
  have := get_at (C.sp.same m) C.gs hg hq hqc
  rw [ptrV, entV] at this
  exact this
 refine ⟨?_, ?_⟩
 ·refine kN_at ?_
  refine kfld_of ?_
  refine kld_of (v := .pointer (some ⟨c.bs, 0, none⟩)) hd.here rfl ?_
  refine kG_of rfl ?_
  refine kldN_at (cs := [.int .i64 i, .int .i64 y.2.g]) hbd rfl (by omega) ?_
  refine kG_of rfl ?_
  refine kcall_of (hget _ (Mod.refl _ _)) ?_
  rintro v w19 ⟨rfl, h19⟩
  refine knew_of fun w21 h21 hs21 hb21 => ?_
  refine kG_of (kldN_at (cs := [.int .i64 i, .int .i64 y.2.g]) ((h19.trans h21).get hbd (fun h => h)) rfl (by omega) ⟨rfl, rfl⟩) ?_
  refine kG_of (kld_of (v := .pointer (some ⟨c.bs, 0, none⟩)) (key (h19.trans h21)) rfl ⟨rfl, rfl⟩) ?_
  refine kext_at rfl ?_
  refine kst_of (vs := q.cells) hb21 rfl rfl rfl (by simp) (by simp [Part.cells]) fun w23 h23 hs23 hb23 => ?_
  have hb23 : blk w23 w19.heap.size = some (.cells q.cells.toArray 102) := hb23
  refine kext_at rfl ?_
  have hz19 := h19.size
  exact tail _ _ (h19.trans (h21.trans' (h23.mono fun k _ e => .inr (by omega)))) (by omega) hb23
 ·refine knew_of fun w39 h39 hs39 hb39 => ?_
  refine kN_at ?_
  refine kfld_of ?_
  refine kld_of (v := .pointer (some ⟨c.bs, 0, none⟩)) (key h39) rfl ?_
  refine kG_of rfl ?_
  refine kG_of (kld_of (v := .pointer (some ⟨c.bs, 0, none⟩)) hd.here rfl ⟨rfl, rfl⟩) ?_
  refine kldN_at (cs := [.int .i64 i, .int .i64 y.2.g]) (h39.get hbd (fun h => h)) rfl (by omega) ?_
  refine kG_of rfl ?_
  refine kG_of (kldN_at (cs := [.int .i64 i, .int .i64 y.2.g]) hbd rfl (by omega) ⟨rfl, rfl⟩) ?_
  refine kcall_of (hget _ h39) ?_
  rintro v w44 ⟨rfl, h44⟩
  refine kext_at rfl ?_
  refine kst_of (vs := q.cells) (h44.get hb39 (fun h => h)) rfl rfl rfl (by simp) (by simp [Part.cells]) fun w46 h46 hs46 hb46 => ?_
  have hb46 : blk w46 wd.heap.size = some (.cells q.cells.toArray 102) := hb46
  refine kext_at rfl ?_
  exact tail _ _ ((h39.trans h44).trans' (h46.mono fun k _ e => .inr (by omega))) (by omega) hb46
end
section
attribute [local irreducible] kO kB kStr kInt kN kG kIf kfld kld kldN kst knew kmap kbld kbldS kext kcnv klenStr klen kcap kprt kprtN kbool kint kstr keq kun ksl kix kiv kta kmk kmm ksem ksemU kextf kcallV kcallM kcall kL
theorem newS_len (L : List Comp) (most : Nat) : (newS L most).gens.length = most := by simp [newS, newS0, layS]
end
section
attribute [local irreducible] kO kB kStr kInt kN kG kIf kfld kld kldN kst knew kmap kbld kbldS kext kcnv klenStr klen kcap kprt kprtN kbool kint kstr keq kun ksl kix kiv kta kmk kmm ksem ksemU kextf kcallV kcallM kcall kL
structure ActO where
 kind : Int
 x : OrdM
def ActO.cells (a : ActO) : List Value := .int .i64 a.kind :: a.x.cells
end
section
attribute [local irreducible] kO kB kStr kInt kN kG kIf kfld kld kldN kst knew kmap kbld kbldS kext kcnv klenStr klen kcap kprt kprtN kbool kint kstr keq kun ksl kix kiv kta kmk kmm ksem ksemU kextf kcallV kcallM kcall kL
structure Kept2 (L M : List Part) (del : Part → Bool) (i j : Nat) : Prop where
 len : M.length = L.length
 ahead : M.take i = (L.take j).filter fun q => !del q
 rest : ∀ x, j ≤ x → M[x]? = L[x]?
 le : i < j
theorem Kept2.first {L : List Part} {del : Part → Bool} {k : Nat} (hk : k < L.length) (hd : del L[k] = true) (hb : ∀ j (hj : j < L.length), j < k → del L[j] = false) : Kept2 L L del k (k + 1) := by
 refine ⟨rfl, ?_, fun _ _ => rfl, by omega⟩
 rw [List.take_succ_eq_append_getElem hk, List.filter_append, List.filter_eq_self.2, List.filter_cons_of_neg (by simp [hd]), List.filter_nil, List.append_nil]
 intro q hq
 obtain ⟨i, hi, rfl⟩ := List.mem_iff_getElem.1 hq
 rw [List.length_take] at hi
 rw [List.getElem_take, hb i (by omega) (by omega)]
 rfl
theorem Kept2.keep {L M : List Part} {del : Part → Bool} {i j : Nat} (h : Kept2 L M del i j) (hj : j < L.length) (hd : del L[j] = false) : Kept2 L (M.set i L[j]) del (i + 1) (j + 1) := by
 have hle := h.le
 refine ⟨by rw [List.length_set]; exact h.len, ?_, fun x hx => ?_, by omega⟩
 ·have hi : i < (M.set i L[j]).length := by rw [List.length_set, h.len]; omega
  rw [List.take_succ_eq_append_getElem hi, List.getElem_set_self, List.take_set_of_le (Nat.le_refl i), h.ahead, List.take_succ_eq_append_getElem hj, List.filter_append, List.filter_cons_of_pos (by simp [hd]), List.filter_nil]
 ·rw [List.getElem?_set_ne (by omega)]
  exact h.rest x (by omega)
theorem Kept2.drop {L M : List Part} {del : Part → Bool} {i j : Nat} (h : Kept2 L M del i j) (hj : j < L.length) (hd : del L[j] = true) : Kept2 L M del i (j + 1) := by
 have hle := h.le
 refine ⟨h.len, ?_, fun x hx => h.rest x (by omega), by omega⟩
 rw [h.ahead, List.take_succ_eq_append_getElem hj, List.filter_append, List.filter_cons_of_neg (by simp [hd]), List.filter_nil, List.append_nil]
end
section
attribute [local irreducible] kO kB kStr kInt kN kG kIf kfld kld kldN kst knew kmap kbld kbldS kext kcnv klenStr klen kcap kprt kprtN kbool kint kstr keq kun ksl kix kiv kta kmk kmm ksem ksemU kextf kcallV kcallM kcall kL
theorem slNumsT : isSlT Tryz.prog 57 = true := by kernel_rfl
theorem ones_ints : ∀ l : List Int, oneCells (l.map (Value.int .i64)) = true
 | [] => rfl
 | x :: l => by
  show oneCells (.int .i64 x :: l.map (Value.int .i64)) = true
  simp only [oneCells, ones_ints l]; rfl
theorem cloneN_spec {w : World} {a : Option Addr} {n c : Nat} {l : List Int} (hs : SlIs w a n 1 (l.map (Value.int .i64))) (hn : l.length ≤ 1000000) :
  Meets Tryz.prog 46 #[.slice a n c] w fun v w' => Own w' v 1 (l.map (Value.int .i64)) ∧ (∀ k, vblk v k → w.heap.size ≤ k) ∧ Same w w' := by
 have hl : n = l.length := by have h1 := hs.1; rw [List.length_map] at h1; omega
 subst hl
 refine f46_ok ?_
 unfold f46
 rw [keq_sl_nil slNumsT]
 cases a with
 | none =>
  have hL : l.length = 0 := by rcases hs.2 with h | ⟨_, _, _, _, _, h, _⟩; exact h; cases h
  have : l = [] := List.eq_nil_of_length_eq_zero hL
  subst this
  refine kB_at ?_
  refine kIf_T rfl ?_
  exact ⟨Own.nil _ _, (fun k hk => by obtain ⟨_, _, _, h⟩ := hk; cases h), Mod.refl _ _⟩
 | some a =>
  refine kB_at ?_
  refine kIf_F rfl ?_
  unfold f46_0
  refine kbldS_of (cs := []) rfl fun w5 h5 hs5 hb5 => ?_
  refine ksem_append apNums (by omega) (vs := []) (Own.blk hb5 (n := 0) (by simp) (by simp [maxLen])) (Src.ofSlIs (hk := slNums_is.choose_spec) c (hs.same h5) (ones_ints l)) (by simp; omega) (by simp; omega) ?_
  intro v' w' ho hm hf
  refine ⟨by simpa using ho, fun b hb => ?_, Mod.after h5 hm (fun b hb => by rw [vblk_new hb]; exact Nat.le_refl _)⟩
  rcases hf b hb with h | h
  ·rw [vblk_new h]; exact Nat.le_refl _
  ·omega
theorem ptGoo : isPtrT Tryz.prog 150 = true := by kernel_rfl
structure BeV where
 id : Nat
 pa : Option Addr
 pc : Nat
 parts : List Part
def BeV.pv (b : BeV) : Value := .slice b.pa b.parts.length b.pc
def BeV.cells (b : BeV) : List Value := [natV b.id, .slice b.pa b.parts.length b.pc]
def BeV.key (b : BeV) : Nat × List Part := (b.id, b.parts)
structure BsAt (lo : Nat) (w : World) (x : Value) (bl : List BeV) : Prop where
 own : Own w x 2 (bl.flatMap BeV.cells)
 parts : ∀ b ∈ bl, Own w b.pv 6 (b.parts.flatMap Part.cells)
 xlo : ∀ k, vblk x k → lo ≤ k
 plo : ∀ b ∈ bl, ∀ k, vblk b.pv k → lo ≤ k
 ne : ∀ b ∈ bl, ∀ k, vblk b.pv k → ¬ vblk x k
 apart : bl.Pairwise fun b b' => ∀ k, vblk b.pv k → ¬ vblk b'.pv k
theorem BsAt.same {lo : Nat} {w w' : World} {x : Value} {bl : List BeV} (h : BsAt lo w x bl) (m : Same w w') : BsAt lo w' x bl :=
 ⟨h.own.same m, fun b hb => (h.parts b hb).same m, h.xlo, h.plo, h.ne, h.apart⟩
end
section
attribute [local irreducible] kO kB kStr kInt kN kG kIf kfld kld kldN kst knew kmap kbld kbldS kext kcnv klenStr klen kcap kprt kprtN kbool kint kstr keq kun ksl kix kiv kta kmk kmm ksem ksemU kextf kcallV kcallM kcall kL
theorem kIf_ndec {p : Prop} [Decidable p] {X Y : Prop} (h1 : ¬ p → X) (h2 : p → Y) : kIf (!decide p) X Y :=
 kIf_of (fun h => h1 (by simpa using h)) (fun h => h2 (by simpa using h))
def rowAny (op : Int) : Value := .tuple #[.agg (rowC (rowF op)).toArray, .bool (decide (0 ≤ op ∧ op < 36))]
theorem codeAny {w : World} (hr : RowsAt w) (op : Int) : Meets Tryz.prog 81 #[.int .i64 op] w fun v w' => v = rowAny op ∧ Same w w' := by
 by_cases hin : 0 ≤ op ∧ op < 36
 ·obtain ⟨n, rfl⟩ : ∃ n : Nat, op = (n : Int) := ⟨op.toNat, by omega⟩
  refine (codeOf_spec hr n (by omega)).mono ?_
  rintro v w' ⟨rfl, h⟩
  refine ⟨?_, h⟩
  unfold rowAny
  rw [rowF_nat n (by omega), decide_eq_true hin]
 ·refine f81_ok ?_
  unfold f81
  refine knew_of fun w2 h2 hs2 hb2 => ?_
  unfold rowAny
  rw [rowF_no (by omega), decide_eq_false hin]
  have hz : ∀ Q : PQ, (∀ w', Same w w' → Q (.tuple #[.agg (rowC ([], 0, 0, 0)).toArray, .bool false]) w') → f81_0 (.int .i64 op) (.pointer (some ⟨w.heap.size, 0, none⟩)) (.bool true) Q w2 := fun Q hQ => by
   unfold f81_0
   refine kB_at ?_
   refine kIf_T rfl ?_
   refine kbld_of (cs := rowC ([], 0, 0, 0)) rfl ?_
   refine kst_of (vs := rowC ([], 0, 0, 0)) hb2 rfl rfl rfl (by simp) (by simp [rowC]) fun w7 h7 hs7 hb7 => ?_
   have hb7 : blk w7 w.heap.size = some (.cells (rowC ([], 0, 0, 0)).toArray 188) := hb7
   refine kldN_at (cs := rowC ([], 0, 0, 0)) hb7 rfl (by omega) ?_
   exact hQ _ (Mod.after h2 h7 (fun b hb => by omega))
  refine lss_at ?_
  refine kB_at ?_
  refine kIf_ndec (fun h0 => ?_) (fun h0 => ?_)
  ·refine geq_at ?_
   rw [decide_eq_true (by omega)]
   exact hz _ fun w' h => ⟨rfl, h⟩
  ·exact hz _ fun w' h => ⟨rfl, h⟩
theorem movesA {w : World} (hr : RowsAt w) (op : Int) : Meets Tryz.prog 43 #[.int .i64 op] w fun v w' => v = .tuple #[.int .i64 (rowF op).2.2.1, .int .i64 (rowF op).2.2.2] ∧ Same w w' := by
 refine f43_ok ?_
 unfold f43
 refine kcall_of (codeAny hr op) ?_
 rintro v w2 ⟨rfl, h2⟩
 unfold rowAny
 generalize rowF op = r
 repeat (first | refine kN_at ?_ | refine kB_at ?_ | refine kfld_of ?_ | refine kext_at rfl ?_ | refine kG_of (by first | exact rfl | omega) ?_ | refine klen_at ?_ | refine eql_at ?_ | refine neq_at ?_ | refine lss_at ?_ | refine leq_at ?_ | refine gtr_at ?_ | refine geq_at ?_ | refine add_at (by omega) (by omega) ?_ | refine sub_at (by omega) (by omega) ?_ | refine not_at ?_ | refine kO_at ?_ | refine kprt_at rfl ?_ | refine kprtN_at rfl ?_ | refine kcap_at ?_ | refine klenStr_at ?_ | refine kN_iat ?_ | refine kN_fat ?_ | refine kIf_T (by first | exact rfl | exact decT (by omega) | exact notT (decF (by omega))) ?_ | refine kIf_F (by first | exact rfl | exact decF (by omega) | exact notF (decT (by omega))) ?_)
 refine knew_of fun w6 h6 hs6 hb6 => ?_
 refine kst_of (vs := rowC r) hb6 rfl rfl rfl (by simp) (by simp [rowC]) fun w7 h7 hs7 hb7 => ?_
 have hb7 : blk w7.drew w2.heap.size = some (.cells (rowC r).toArray 188) := hb7
 have m7 : Same w w7.drew := (h2.trans (Mod.after h6 h7 (fun b hb => by omega))).drew
 generalize w7.drew = wd at *
 repeat (first | refine kN_at ?_ | refine kB_at ?_ | refine kfld_of ?_ | refine kext_at rfl ?_ | refine kld_at hb7 rfl ?_ | refine kldN_at hb7 rfl (by omega) ?_ | refine kG_of (by first | exact rfl | omega) ?_ | refine klen_at ?_ | refine eql_at ?_ | refine neq_at ?_ | refine lss_at ?_ | refine leq_at ?_ | refine gtr_at ?_ | refine geq_at ?_ | refine add_at (by omega) (by omega) ?_ | refine sub_at (by omega) (by omega) ?_ | refine not_at ?_ | refine kO_at ?_ | refine kprt_at rfl ?_ | refine kprtN_at rfl ?_ | refine kcap_at ?_ | refine klenStr_at ?_ | refine kN_iat ?_ | refine kN_fat ?_ | refine kIf_T (by first | exact rfl | exact decT (by omega) | exact notT (decF (by omega))) ?_ | refine kIf_F (by first | exact rfl | exact decF (by omega) | exact notF (decT (by omega))) ?_)
 exact ⟨rfl, m7⟩
theorem nameA {w : World} (hr : RowsAt w) (op : Int) : Meets Tryz.prog 80 #[.int .i64 op] w fun v w' => v = .string (tx (rowF op).1) ∧ Same w w' := by
 refine f80_ok ?_
 unfold f80
 refine kcall_of (codeAny hr op) ?_
 rintro v w2 ⟨rfl, h2⟩
 unfold rowAny
 generalize rowF op = r
 repeat (first | refine kN_at ?_ | refine kB_at ?_ | refine kfld_of ?_ | refine kext_at rfl ?_ | refine kG_of (by first | exact rfl | omega) ?_ | refine klen_at ?_ | refine eql_at ?_ | refine neq_at ?_ | refine lss_at ?_ | refine leq_at ?_ | refine gtr_at ?_ | refine geq_at ?_ | refine add_at (by omega) (by omega) ?_ | refine sub_at (by omega) (by omega) ?_ | refine not_at ?_ | refine kO_at ?_ | refine kprt_at rfl ?_ | refine kprtN_at rfl ?_ | refine kcap_at ?_ | refine klenStr_at ?_ | refine kN_iat ?_ | refine kN_fat ?_ | refine kIf_T (by first | exact rfl | exact decT (by omega) | exact notT (decF (by omega))) ?_ | refine kIf_F (by first | exact rfl | exact decF (by omega) | exact notF (decT (by omega))) ?_)
 refine knew_of fun w6 h6 hs6 hb6 => ?_
 refine kst_of (vs := rowC r) hb6 rfl rfl rfl (by simp) (by simp [rowC]) fun w7 h7 hs7 hb7 => ?_
 have hb7 : blk w7 w2.heap.size = some (.cells (rowC r).toArray 188) := hb7
 repeat (first | refine kN_at ?_ | refine kB_at ?_ | refine kfld_of ?_ | refine kext_at rfl ?_ | refine kld_at hb7 rfl ?_ | refine kldN_at hb7 rfl (by omega) ?_ | refine kG_of (by first | exact rfl | omega) ?_ | refine klen_at ?_ | refine eql_at ?_ | refine neq_at ?_ | refine lss_at ?_ | refine leq_at ?_ | refine gtr_at ?_ | refine geq_at ?_ | refine add_at (by omega) (by omega) ?_ | refine sub_at (by omega) (by omega) ?_ | refine not_at ?_ | refine kO_at ?_ | refine kprt_at rfl ?_ | refine kprtN_at rfl ?_ | refine kcap_at ?_ | refine klenStr_at ?_ | refine kN_iat ?_ | refine kN_fat ?_ | refine kIf_T (by first | exact rfl | exact decT (by omega) | exact notT (decF (by omega))) ?_ | refine kIf_F (by first | exact rfl | exact decF (by omega) | exact notF (decT (by omega))) ?_)
 exact ⟨rfl, h2.trans (Mod.after h6 h7 (fun b hb => by omega))⟩
theorem jumpsA {w : World} (hr : RowsAt w) (op : Int) : Meets Tryz.prog 79 #[.int .i64 op] w fun v w' => (∃ j : Bool, v = .tuple #[.bool (decide (op = 20 ∨ op = 21)), .bool j]) ∧ Same w w' := by
 refine f79_ok ?_
 unfold f79
 refine kcall_of (codeAny hr op) ?_
 rintro v w2 ⟨rfl, h2⟩
 unfold rowAny
 generalize rowF op = r
 repeat (first | refine kN_at ?_ | refine kB_at ?_ | refine kfld_of ?_ | refine kext_at rfl ?_ | refine kG_of (by first | exact rfl | omega) ?_ | refine klen_at ?_ | refine eql_at ?_ | refine neq_at ?_ | refine lss_at ?_ | refine leq_at ?_ | refine gtr_at ?_ | refine geq_at ?_ | refine add_at (by omega) (by omega) ?_ | refine sub_at (by omega) (by omega) ?_ | refine not_at ?_ | refine kO_at ?_ | refine kprt_at rfl ?_ | refine kprtN_at rfl ?_ | refine kcap_at ?_ | refine klenStr_at ?_ | refine kN_iat ?_ | refine kN_fat ?_ | refine kIf_T (by first | exact rfl | exact decT (by omega) | exact notT (decF (by omega))) ?_ | refine kIf_F (by first | exact rfl | exact decF (by omega) | exact notF (decT (by omega))) ?_)
 refine knew_of fun w6 h6 hs6 hb6 => ?_
 refine kst_of (vs := rowC r) hb6 rfl rfl rfl (by simp) (by simp [rowC]) fun w7 h7 hs7 hb7 => ?_
 have m7 : Same w w7 := h2.trans (Mod.after h6 h7 (fun b hb => by omega))
 refine eql_at ?_
 refine kB_at ?_
 refine kIf_dec (fun h => ?_) (fun h35 => ?_)
 ·unfold f79_0
  exact ⟨⟨false, by rw [decide_eq_false (by omega)]⟩, m7⟩
 unfold f79_1
 refine eql_at ?_
 refine kB_at ?_
 refine kIf_dec (fun h => ?_) (fun h20 => ?_)
 ·unfold f79_2
  exact ⟨⟨false, by rw [decide_eq_true (by omega)]⟩, m7⟩
 unfold f79_3
 refine eql_at ?_
 refine kB_at ?_
 refine kIf_dec (fun h => ?_) (fun h21 => ?_)
 ·unfold f79_4 f79_5 f79_6
  exact ⟨⟨decide (0 ≤ op ∧ op < 36), by rw [decide_eq_true (show op = 20 ∨ op = 21 by omega)]⟩, m7⟩
 ·unfold f79_5 f79_6
  exact ⟨⟨decide (0 ≤ op ∧ op < 36), by rw [decide_eq_false (show ¬ (op = 20 ∨ op = 21) by omega)]⟩, m7⟩
theorem apNum : appT Tryz.prog 57 1 8 = true := by kernel_rfl
theorem slIns : isSlT Tryz.prog 42 = true := by kernel_rfl
theorem apIns : appT Tryz.prog 42 3 24 = true := by kernel_rfl
theorem ptMill : isPtrT Tryz.prog 48 = true := by kernel_rfl
structure HC where
 wp : Option Addr
 op : Option Addr
 i0 : Int
 i1 : Int
 who : Int
def HC.cells (h : HC) : List Value := [.pointer h.wp, .pointer h.op, .int .i64 h.i0, .int .i64 h.i1, .int .i64 h.who]
def millC (h : HC) (la : Option Addr) (n lc : Nat) (place : Nat) (sv : Value) (fuel : Nat) (over : Bool) : Array Value :=
 #[.pointer h.wp, .pointer h.op, .int .i64 h.i0, .int .i64 h.i1, .int .i64 h.who, .slice la n lc, natV place, sv, natV fuel, .bool over]
structure MlAt {σ : Type} (h : HC) (l : List IN) (bM : Nat) (E X : Nat → Prop) (w : World) (m : MS σ) : Prop where
 ex : ∃ la lc sv, blk w bM = some (.cells (millC h la l.length lc m.place sv m.fuel m.over) 108) ∧ SlIs w la l.length 3 (l.flatMap IN.cells) ∧ Own w sv 1 (m.st.map nV) ∧ (∀ k f, la = some ⟨k, f, none⟩ → (X k ∧ k ≠ bM ∧ ¬ vblk sv k) ∧ k < w.heap.size) ∧ ∀ k, vblk sv k → X k ∧ k ≠ bM ∧ ¬ E k
 own : X bM ∧ ¬ E bM
section
variable {σ : Type} {h : HC} {l : List IN} {bM : Nat} {E X : Nat → Prop} {w w' : World} {m : MS σ}
theorem MlAt.mod {fp : Nat → Prop} (hM : MlAt h l bM E X w m) (mm : Mod fp w w') (hf : ∀ k, X k → ¬ fp k) : MlAt h l bM E X w' m := by
 obtain ⟨⟨la, lc, sv, h1, h2, h3, h4, h5⟩, h6⟩ := hM
 exact ⟨⟨la, lc, sv, mm.get h1 (hf _ h6.1), h2.mod mm (fun k f e => hf k (h4 k f e).1.1), h3.mod mm (fun k hk => hf k (h5 k hk).1), fun k f e => ⟨(h4 k f e).1, Nat.lt_of_lt_of_le (h4 k f e).2 mm.size⟩, h5⟩, h6⟩
theorem MlAt.same (hM : MlAt h l bM E X w m) (mm : Same w w') : MlAt h l bM E X w' m := hM.mod mm fun _ _ h => h
theorem MlAt.weak {X' : Nat → Prop} (hM : MlAt h l bM E X w m) (hs : ∀ k, X k → X' k) : MlAt h l bM E X' w m := by
 obtain ⟨⟨la, lc, sv, h1, h2, h3, h4, h5⟩, h6⟩ := hM
 exact ⟨⟨la, lc, sv, h1, h2, h3, fun k f e => ⟨⟨hs k (h4 k f e).1.1, (h4 k f e).1.2⟩, (h4 k f e).2⟩, fun k hk => ⟨hs k (h5 k hk).1, (h5 k hk).2⟩⟩, hs _ h6.1, h6.2⟩
theorem MlAt.lt (hM : MlAt h l bM E X w m) : bM < w.heap.size := by
 obtain ⟨⟨la, lc, sv, h1, _⟩, _⟩ := hM
 exact lt_of_blk h1
theorem MlAt.hosts (hM : MlAt h l bM E X w m) (s : σ) : MlAt h l bM E X w (m.hosts s) := ⟨hM.ex, hM.own⟩
theorem MlAt.set (hM : MlAt h l bM E X w m) {m' : MS σ} (hst : m'.st = m.st) (mm : Mod (fun k => k = bM) w w')
  (hb : ∀ la lc sv, blk w bM = some (.cells (millC h la l.length lc m.place sv m.fuel m.over) 108) → blk w' bM = some (.cells (millC h la l.length lc m'.place sv m'.fuel m'.over) 108)) : MlAt h l bM E X w' m' := by
 obtain ⟨⟨la, lc, sv, h1, h2, h3, h4, h5⟩, h6⟩ := hM
 exact ⟨⟨la, lc, sv, hb la lc sv h1, h2.mod mm (fun k f e => (h4 k f e).1.2.1), by rw [hst]; exact h3.mod mm (fun k hk => (h5 k hk).2.1), fun k f e => ⟨(h4 k f e).1, Nat.lt_of_lt_of_le (h4 k f e).2 mm.size⟩, h5⟩, h6⟩
theorem mlOver (hM : MlAt h l bM E X w m) : Meets Tryz.prog 13 #[.pointer (some ⟨bM, 0, none⟩)] w fun v w' => v = .bool (overF l.length m) ∧ Same w w' := by
 obtain ⟨⟨la, lc, sv, hb, _⟩, _⟩ := hM
 refine f13_ok ?_
 unfold f13
 have hm : Same w w.drew := (Mod.refl _ w).drew
 have hb : blk w.drew bM = _ := hb
 generalize w.drew = wd at *
 rw [keq_ptr_nil ptMill]
 unfold overF
 refine kG_of rfl ?_
 refine kB_at ?_
 refine kIf_T rfl ?_
 refine kN_at ?_
 refine kfld_of ?_
 refine kld_at hb rfl ?_
 refine kG_of rfl ?_
 refine kB_at ?_
 refine kIf_of (fun ho => ?_) (fun ho => ?_)
 ·have ho : m.over = false := by simpa using ho
  repeat (first | refine kN_at ?_ | refine kB_at ?_ | refine kfld_of ?_ | refine kext_at rfl ?_ | refine kld_at hb rfl ?_ | refine kldN_at hb rfl (by omega) ?_ | refine kG_of (by first | exact rfl | omega) ?_ | refine klen_at ?_ | refine eql_at ?_ | refine neq_at ?_ | refine lss_at ?_ | refine leq_at ?_ | refine gtr_at ?_ | refine geq_at ?_ | refine add_at (by omega) (by omega) ?_ | refine sub_at (by omega) (by omega) ?_ | refine not_at ?_ | refine kO_at ?_ | refine kprt_at rfl ?_ | refine kprtN_at rfl ?_ | refine kcap_at ?_ | refine klenStr_at ?_ | refine kN_iat ?_ | refine kN_fat ?_ | refine kIf_T (by first | exact rfl | exact decT (by omega) | exact notT (decF (by omega))) ?_ | refine kIf_F (by first | exact rfl | exact decF (by omega) | exact notF (decT (by omega))) ?_)
  rw [ho, Bool.false_or]
  exact ⟨rfl, hm⟩
 ·have ho : m.over = true := by simpa using ho
  rw [ho, Bool.true_or]
  exact ⟨rfl, hm⟩
theorem mlFuel (hM : MlAt h l bM E X w m) : Meets Tryz.prog 12 #[.pointer (some ⟨bM, 0, none⟩)] w fun v w' => v = natV m.fuel ∧ w' = w := by
 obtain ⟨⟨la, lc, sv, hb, _⟩, _⟩ := hM
 refine f12_ok ?_
 unfold f12
 rw [keq_ptr_nil ptMill]
 repeat (first | refine kN_at ?_ | refine kB_at ?_ | refine kfld_of ?_ | refine kext_at rfl ?_ | refine kld_at hb rfl ?_ | refine kldN_at hb rfl (by omega) ?_ | refine kG_of (by first | exact rfl | omega) ?_ | refine klen_at ?_ | refine eql_at ?_ | refine neq_at ?_ | refine lss_at ?_ | refine leq_at ?_ | refine gtr_at ?_ | refine geq_at ?_ | refine add_at (by omega) (by omega) ?_ | refine sub_at (by omega) (by omega) ?_ | refine not_at ?_ | refine kO_at ?_ | refine kprt_at rfl ?_ | refine kprtN_at rfl ?_ | refine kcap_at ?_ | refine klenStr_at ?_ | refine kN_iat ?_ | refine kN_fat ?_ | refine kIf_T (by first | exact rfl | exact decT (by omega) | exact notT (decF (by omega))) ?_ | refine kIf_F (by first | exact rfl | exact decF (by omega) | exact notF (decT (by omega))) ?_)
 exact ⟨rfl, rfl⟩
theorem mlStack (hM : MlAt h l bM E X w m) (hn : m.st.length ≤ 1000) : Meets Tryz.prog 14 #[.pointer (some ⟨bM, 0, none⟩)] w fun v w' => Own w' v 1 (m.st.map nV) ∧ (∀ k, vblk v k → w.heap.size ≤ k) ∧ Same w w' := by
 obtain ⟨⟨la, lc, sv, hb, _, ho, _⟩, _⟩ := hM
 obtain ⟨a, n, c, rfl, hs, _⟩ := ho.is
 refine f14_ok ?_
 unfold f14
 rw [keq_ptr_nil ptMill]
 repeat (first | refine kN_at ?_ | refine kB_at ?_ | refine kfld_of ?_ | refine kext_at rfl ?_ | refine kld_at hb rfl ?_ | refine kldN_at hb rfl (by omega) ?_ | refine kG_of (by first | exact rfl | omega) ?_ | refine klen_at ?_ | refine eql_at ?_ | refine neq_at ?_ | refine lss_at ?_ | refine leq_at ?_ | refine gtr_at ?_ | refine geq_at ?_ | refine add_at (by omega) (by omega) ?_ | refine sub_at (by omega) (by omega) ?_ | refine not_at ?_ | refine kO_at ?_ | refine kprt_at rfl ?_ | refine kprtN_at rfl ?_ | refine kcap_at ?_ | refine klenStr_at ?_ | refine kN_iat ?_ | refine kN_fat ?_ | refine kIf_T (by first | exact rfl | exact decT (by omega) | exact notT (decF (by omega))) ?_ | refine kIf_F (by first | exact rfl | exact decF (by omega) | exact notF (decT (by omega))) ?_)
 refine kcall_of (cloneN_spec hs (by omega)) ?_
 rintro v w' ⟨h1, h2, h3⟩
 exact ⟨h1, h2, h3⟩
theorem mlLay (hM : MlAt h l bM E X w m) (hE : ∀ k, E k → k < w.heap.size) (ns : List Int) {a : Option Addr} {n c : Nat} (hs : SlIs w a n 1 (ns.map nV)) (h1 : m.st.length ≤ 1000) (h2 : ns.length ≤ 1000) :
  Meets Tryz.prog 83 #[.pointer (some ⟨bM, 0, none⟩), .slice a n c] w fun v w' => MlAt h l bM E (newB w w' X) w' (m.lays ns) ∧ Mod (fun k => X k ∧ ¬ E k) w w' := by
 have hbM := hM.lt
 obtain ⟨⟨la, lc, sv, hb, hl, ho, hla, hsv⟩, hX⟩ := hM
 refine f83_ok ?_
 unfold f83
 refine kN_at ?_
 refine kfld_of ?_
 refine kld_at hb rfl ?_
 refine ksem_append apNum (by omega) ho (Src.ofSlIs (hk := (slT_of (P := Tryz.prog) (t := 57) (by kernel_rfl)).choose_spec) c hs (ones_ints ns)) (by simp; omega) (by simp; omega) ?_
 intro v' w4 ho4 hm4 hf4
 have hb4 := hm4.get hb (fun e => (hsv _ e).2.1 rfl)
 have hnv : ¬ vblk v' bM := fun e => by
  rcases hf4 _ e with e | e
  ·exact (hsv _ e).2.1 rfl
  ·omega
 refine kN_at ?_
 refine kfld_of ?_
 obtain ⟨a', n', c', e', _⟩ := ho4.is
 subst e'
 refine kst_of (vs := [.slice a' n' c']) hb4 rfl rfl rfl (by simp [millC]) (by simp) fun w6 h6 hs6 hb6 => ?_
 have hm6 : Mod (fun k => k = bM ∨ vblk sv k) w w6 := (hm4.mono fun _ _ h => .inr h).trans (h6.mono fun _ _ h => .inl h)
 have hlt : ∀ k, vblk (.slice a' n' c') k → k < w6.heap.size := fun k hk => Nat.lt_of_lt_of_le (ho4.vblk_lt hk) h6.size
 refine ⟨⟨⟨la, lc, _, hb6, hl.mod hm6 ?_, ?_, ?_, ?_⟩, .inl hX.1, hX.2⟩, hm6.mono fun k _ hk => ?_⟩
 ·intro k f e hbad
  obtain ⟨⟨p1, p2, p3⟩, p4⟩ := hla k f e
  rcases hbad with hbad | hbad
  ·exact p2 hbad
  ·exact p3 hbad
 ·show Own w6 _ 1 ((m.st ++ ns).map nV)
  rw [List.map_append]
  exact ho4.mod h6 fun b hv e => hnv (e ▸ hv)
 ·intro k f e
  obtain ⟨⟨p1, p2, p3⟩, p4⟩ := hla k f e
  refine ⟨⟨.inl p1, p2, fun hv => ?_⟩, Nat.lt_of_lt_of_le p4 hm6.size⟩
  rcases hf4 _ hv with hv | hv
  ·exact p3 hv
  ·omega
 ·intro k hk
  have hk6 := hlt k hk
  refine ⟨?_, fun e => hnv (e ▸ hk), fun he => ?_⟩
  ·rcases hf4 _ hk with hv | hv
   ·exact .inl (hsv _ hv).1
   ·exact .inr ⟨hv, hk6⟩
  ·rcases hf4 _ hk with hv | hv
   ·exact (hsv _ hv).2.2 he
   ·have := hE k he; omega
 ·rcases hk with rfl | hk
  ·exact hX
  ·exact ⟨(hsv k hk).1, (hsv k hk).2.2⟩
end
end
section
attribute [local irreducible] kO kB kStr kInt kN kG kIf kfld kld kldN kst knew kmap kbld kbldS kext kcnv klenStr klen kcap kprt kprtN kbool kint kstr keq kun ksl kix kiv kta kmk kmm ksem ksemU kextf kcallV kcallM kcall kL
section
variable {σ : Type} {h : HC} {l : List IN} {bM : Nat} {E X : Nat → Prop} {w w' : World} {m : MS σ}
theorem mlTake (hM : MlAt h l bM E X w m) (k : Nat) (hk : k ≤ m.st.length) (h1 : m.st.length ≤ 1000) :
  Meets Tryz.prog 45 #[.pointer (some ⟨bM, 0, none⟩), .int .i64 k] w fun v w' => Own w' v 1 ((m.st.drop (m.st.length - k)).map nV) ∧ MlAt h l bM E X w' { m with st := m.st.take (m.st.length - k) } ∧ Mod (fun k => k = bM) w w' := by
 have hbM := hM.lt
 obtain ⟨⟨la, lc, sv, hb, hl, ho, hla, hsv⟩, hX⟩ := hM
 have ho' := ho
 obtain ⟨a, n, c, rfl, hlen, hnc, hc, hbk⟩ := ho'
 have hn : n = m.st.length := by simpa using hlen.symm
 subst hn
 refine f45_ok ?_
 unfold f45
 have hwr : ((m.st.length : Int) - (k : Int)) = ((m.st.length - k : Nat) : Int) := by omega
 repeat (first | refine kN_at ?_ | refine kB_at ?_ | refine kfld_of ?_ | refine kext_at rfl ?_ | refine kld_at hb rfl ?_ | refine kldN_at hb rfl (by omega) ?_ | refine kG_of (by first | exact rfl | omega) ?_ | refine klen_at ?_ | refine eql_at ?_ | refine neq_at ?_ | refine lss_at ?_ | refine leq_at ?_ | refine gtr_at ?_ | refine geq_at ?_ | refine add_at (by omega) (by omega) ?_ | refine sub_at (by omega) (by omega) ?_ | refine not_at ?_ | refine kO_at ?_ | refine kprt_at rfl ?_ | refine kprtN_at rfl ?_ | refine kcap_at ?_ | refine klenStr_at ?_ | refine kN_iat ?_ | refine kN_fat ?_ | refine kIf_T (by first | exact rfl | exact decT (by omega) | exact notT (decF (by omega))) ?_ | refine kIf_F (by first | exact rfl | exact decF (by omega) | exact notF (decT (by omega))) ?_)
 rw [hwr]
 repeat (first | refine kN_at ?_ | refine kB_at ?_ | refine kfld_of ?_ | refine kext_at rfl ?_ | refine kld_at hb rfl ?_ | refine kldN_at hb rfl (by omega) ?_ | refine kG_of (by first | exact rfl | omega) ?_ | refine klen_at ?_ | refine eql_at ?_ | refine neq_at ?_ | refine lss_at ?_ | refine leq_at ?_ | refine gtr_at ?_ | refine geq_at ?_ | refine add_at (by omega) (by omega) ?_ | refine sub_at (by omega) (by omega) ?_ | refine not_at ?_ | refine kO_at ?_ | refine kprt_at rfl ?_ | refine kprtN_at rfl ?_ | refine kcap_at ?_ | refine klenStr_at ?_ | refine kN_iat ?_ | refine kN_fat ?_ | refine kIf_T (by first | exact rfl | exact decT (by omega) | exact notT (decF (by omega))) ?_ | refine kIf_F (by first | exact rfl | exact decF (by omega) | exact notF (decT (by omega))) ?_)
 rw [ksl_slice rfl rfl]
 refine kG_of (by simp only [loV_int, hiV_none]; omega) ?_
 simp only [loV_int, hiV_none, Int.toNat_natCast, Nat.mul_one]
 have hsl : SlIs w (if c = m.st.length - k then a else a.map fun x => x.add (m.st.length - k)) (m.st.length - (m.st.length - k)) 1 ((m.st.drop (m.st.length - k)).map nV) := by
  refine ⟨by simp, ?_⟩
  by_cases h0 : k = 0
  ·left; omega
  ·right
   rcases hbk with ⟨_, hc0⟩ | ⟨b, arr, t, rfl, hbb, hsz, htk⟩
   ·omega
   ·rw [if_neg (by omega)]
    refine ⟨b, m.st.length - k, arr, t, _, by simp, hbb, ?_⟩
    rw [List.map_drop, ← htk, Nat.mul_one, Nat.mul_one, List.drop_take]
 refine kcall_of (cloneN_spec hsl (by simp; omega)) ?_
 rintro v w10 ⟨hov, hf10, h10⟩
 have hb10 := h10.get hb (fun h => h)
 repeat (first | refine kN_at ?_ | refine kB_at ?_ | refine kfld_of ?_ | refine kext_at rfl ?_ | refine kld_at hb10 rfl ?_ | refine kldN_at hb10 rfl (by omega) ?_ | refine kG_of (by first | exact rfl | omega) ?_ | refine klen_at ?_ | refine eql_at ?_ | refine neq_at ?_ | refine lss_at ?_ | refine leq_at ?_ | refine gtr_at ?_ | refine geq_at ?_ | refine add_at (by omega) (by omega) ?_ | refine sub_at (by omega) (by omega) ?_ | refine not_at ?_ | refine kO_at ?_ | refine kprt_at rfl ?_ | refine kprtN_at rfl ?_ | refine kcap_at ?_ | refine klenStr_at ?_ | refine kN_iat ?_ | refine kN_fat ?_ | refine kIf_T (by first | exact rfl | exact decT (by omega) | exact notT (decF (by omega))) ?_ | refine kIf_F (by first | exact rfl | exact decF (by omega) | exact notF (decT (by omega))) ?_)
 rw [ksl_slice rfl rfl]
 refine kG_of (by simp only [loV_none, hiV_int]; omega) ?_
 have e1 : (if c = (loV none).toNat then a else a.map fun x => x.add ((loV none).toNat * 1)) = a := by
  split
  ·rfl
  ·rcases hbk with ⟨rfl, _⟩ | ⟨b, arr, t, rfl, _⟩
   ·rfl
   ·simp
 have e2 : ((hiV m.st.length (some (Value.int .i64 ((m.st.length - k : Nat) : Int)))).toNat - (loV none).toNat) = m.st.length - k := by simp
 have e3 : c - (loV none).toNat = c := by simp
 rw [e1, e2, e3]
 repeat (first | refine kN_at ?_ | refine kB_at ?_ | refine kfld_of ?_ | refine kext_at rfl ?_ | refine kld_at hb10 rfl ?_ | refine kldN_at hb10 rfl (by omega) ?_ | refine kG_of (by first | exact rfl | omega) ?_ | refine klen_at ?_ | refine eql_at ?_ | refine neq_at ?_ | refine lss_at ?_ | refine leq_at ?_ | refine gtr_at ?_ | refine geq_at ?_ | refine add_at (by omega) (by omega) ?_ | refine sub_at (by omega) (by omega) ?_ | refine not_at ?_ | refine kO_at ?_ | refine kprt_at rfl ?_ | refine kprtN_at rfl ?_ | refine kcap_at ?_ | refine klenStr_at ?_ | refine kN_iat ?_ | refine kN_fat ?_ | refine kIf_T (by first | exact rfl | exact decT (by omega) | exact notT (decF (by omega))) ?_ | refine kIf_F (by first | exact rfl | exact decF (by omega) | exact notF (decT (by omega))) ?_)
 refine kst_of (vs := [.slice a (m.st.length - k) c]) hb10 rfl rfl rfl (by simp [millC]) (by simp) fun w15 h15 hs15 hb15 => ?_
 have hm15 : Mod (fun k => k = bM) w w15 := (Mod.of_same h10).trans h15
 have hvb : ∀ b, vblk (.slice a (m.st.length - k) c) b → vblk (.slice a m.st.length c) b := by
  rintro b ⟨o, n', c', e⟩
  cases e
  exact ⟨_, _, _, rfl⟩
 refine ⟨hov.mod h15 (fun b hv e => ?_), ⟨⟨la, lc, _, hb15, hl.mod hm15 (fun k f e => (hla k f e).1.2.1), ?_, fun k f e => ?_, fun k hk => hsv k (hvb k hk)⟩, hX⟩, hm15⟩
 ·have := hf10 b hv; omega
 ·show Own w15 _ 1 ((m.st.take _).map nV)
  rw [List.map_take]
  exact (by have := Own.cutN (sz := 1) ho (k := m.st.length - k) (by omega); rwa [Nat.mul_one] at this : Own w _ 1 _).mod hm15 fun b hv e => (hsv b (hvb b hv)).2.1 e
 ·obtain ⟨⟨p1, p2, p3⟩, p4⟩ := hla k f e
  exact ⟨⟨p1, p2, fun hv => p3 (hvb _ hv)⟩, Nat.lt_of_lt_of_le p4 hm15.size⟩
theorem mlCheck {p : Nat → Prop} {Sa : Nat → Addr} (hL : LaidP p Sa w) (hr : RowsAt w) (k12 : p 12) (k13 : p 13) (k14 : p 14) (k15 : p 15) (hM : MlAt h l bM E X w m) (hl : l.length ≤ 1000000) (hst : m.st.length ≤ 1000) (x : IN) :
  Meets Tryz.prog 42 #[.pointer (some ⟨bM, 0, none⟩), .agg x.cells.toArray] w fun v w' => v = (if chkF l.length m x = 0 then .nilIface else errV Sa (chkF l.length m x)) ∧ Same w w' := by
 obtain ⟨⟨la, lc, sv, hb, _, ho, _⟩, _⟩ := hM
 obtain ⟨a, n, c, rfl, hs, hn⟩ := ho.is
 have hn : n = m.st.length := by simpa using hn rfl
 subst hn
 obtain ⟨r1, r2, r3, r4⟩ := rowF_bnd x.op
 have htx := tx_ne x.op
 refine f42_ok ?_
 unfold f42
 refine knew_of fun w2 h2 hs2 hb2 => ?_
 have hb2 : blk w2 w.heap.size = some (.cells x.cells.toArray 67) := hb2
 refine kfld_of ?_
 refine kld_of (v := .int .i64 x.op) hb2 rfl ?_
 refine kcall_of (movesA (hr.same h2) x.op) ?_
 rintro v w6 ⟨rfl, h6⟩
 have m6 := h2.trans h6
 refine kext_at rfl ?_
 refine kext_at rfl ?_
 refine kfld_of ?_
 refine kld_of (v := .int .i64 x.op) (h6.get hb2 (fun h => h)) rfl ?_
 refine kcall_of (jumpsA (hr.same m6) x.op) ?_
 rintro v w12 ⟨⟨j, rfl⟩, h12⟩
 have m12 := m6.trans h12
 have hx12 := (h6.trans h12).get hb2 (fun h => h)
 have hb12 := m12.get hb (fun h => h)
 generalize hch : chkF l.length m x = ch
 unfold chkF at hch
 refine kext_at rfl ?_
 refine kext_at rfl ?_
 refine kN_at ?_
 refine kfld_of ?_
 refine kld_at hb12 rfl ?_
 refine eql_at ?_
 refine kB_at ?_
 refine kIf_dec (fun hf => ?_) (fun hf => ?_)
 ·rw [if_pos (by omega)] at hch
  subst hch
  exact kld_err (hL.same m12) (k := 15) k15 rfl rfl ⟨rfl, m12⟩
 rw [if_neg (by omega)] at hch
 refine kfld_of ?_
 refine kld_of (v := .int .i64 x.op) hx12 rfl ?_
 refine kcall_of (nameA (hr.same m12) x.op) ?_
 rintro v w22 ⟨rfl, h22⟩
 have m22 := m12.trans h22
 have hx22 := h22.get hx12 (fun h => h)
 have hb22 := m22.get hb (fun h => h)
 refine kstr_eql_at ?_
 refine kB_at ?_
 refine kIf_dec (fun hf => ?_) (fun hno => ?_)
 ·rw [if_pos (htx.1 hf)] at hch
  subst hch
  exact kld_err (hL.same m22) (k := 14) k14 rfl rfl ⟨rfl, m22⟩
 rw [if_neg (fun e => hno (htx.2 e))] at hch
 generalize rowF x.op = r at *
 have tail : ∀ Q : PQ, (∀ w', Same w w' → Q (if ch = 0 then .nilIface else errV Sa ch) w') → (¬ ((m.st.length : Int) < r.2.2.1 ∨ (m.st.length : Int) - r.2.2.1 + r.2.2.2 > 16)) → f42_0 (.pointer (some ⟨bM, 0, none⟩)) (.pointer (some ⟨w.heap.size, 0, none⟩)) (.bool (decide (x.op = 20 ∨ x.op = 21))) (.bool false) Q w22 := by
  intro Q hQ hs2
  rw [if_neg hs2] at hch
  unfold f42_0
  refine kB_at ?_
  refine kIf_F rfl ?_
  refine kB_at ?_
  have hdw : Same w w22.drew := m22.drew
  have e13 : ∀ b : Bool, ∀ wz : World, Same w wz → (b = true → ch = 13) → (b = false → ch = 0) → f42_1 (.bool b) Q wz := by
   intro b wz mz h1 h2
   unfold f42_1
   refine kB_at ?_
   refine kIf_of (fun hb => ?_) (fun hb => ?_)
   ·have := hQ _ mz
    rw [h1 hb] at this
    exact kld_err (hL.same mz) (k := 13) k13 rfl rfl this
   ·unfold f42_2
    have := hQ _ mz
    rw [h2 hb] at this
    exact this
  refine kIf_dec (fun hj => ?_) (fun hj => ?_)
  ·have hxd : blk w22.drew w.heap.size = some (.cells x.cells.toArray 67) := hx22
   have hbd : blk w22.drew bM = _ := hb22
   generalize w22.drew = wd at *
   refine kfld_of ?_
   refine kld_of (v := .int .i64 x.a) hxd rfl ?_
   refine kG_of rfl ?_
   refine lss_at ?_
   refine kB_at ?_
   refine kIf_ndec (fun ha => ?_) (fun ha => ?_)
   ·refine kfld_of ?_
    refine kld_of (v := .int .i64 x.a) hxd rfl ?_
    refine kG_of rfl ?_
    refine kN_at ?_
    refine kfld_of ?_
    refine kld_at hbd rfl ?_
    refine kG_of rfl ?_
    refine klen_at ?_
    refine gtr_at ?_
    refine e13 _ _ hdw (fun hd => ?_) (fun hd => ?_)
    ·have hd := of_decide_eq_true hd
     rw [if_pos ⟨hj, .inr hd⟩] at hch; exact hch.symm
    ·have hd := of_decide_eq_false hd
     rw [if_neg (fun hh => hd (hh.2.resolve_left ha))] at hch; exact hch.symm
   ·refine e13 _ _ hdw (fun _ => ?_) (fun hd => Bool.noConfusion hd)
    rw [if_pos ⟨hj, .inl ha⟩] at hch; exact hch.symm
  ·refine e13 _ _ hdw (fun hd => Bool.noConfusion hd) (fun _ => ?_)
   rw [if_neg (fun hh => hj hh.1)] at hch; exact hch.symm
 have bad : ∀ Q : PQ, (∀ w', Same w w' → Q (if ch = 0 then .nilIface else errV Sa ch) w') → ((m.st.length : Int) < r.2.2.1 ∨ (m.st.length : Int) - r.2.2.1 + r.2.2.2 > 16) → f42_0 (.pointer (some ⟨bM, 0, none⟩)) (.pointer (some ⟨w.heap.size, 0, none⟩)) (.bool (decide (x.op = 20 ∨ x.op = 21))) (.bool true) Q w22 := by
  intro Q hQ hs2
  rw [if_pos hs2] at hch
  subst hch
  unfold f42_0
  refine kB_at ?_
  refine kIf_T rfl ?_
  exact kld_err (hL.same m22) (k := 12) k12 rfl rfl (hQ _ m22)
 refine kN_at ?_
 refine kfld_of ?_
 refine kld_at hb22 rfl ?_
 refine klen_at ?_
 refine lss_at ?_
 refine kB_at ?_
 refine kIf_ndec (fun h1 => ?_) (fun h1 => bad _ (fun w' h => ⟨rfl, h⟩) (.inl h1))
 refine kN_at ?_
 refine kfld_of ?_
 refine kld_at hb22 rfl ?_
 refine klen_at ?_
 refine sub_at (by omega) (by omega) ?_
 refine add_at (by omega) (by omega) ?_
 refine gtr_at ?_
 by_cases h2 : (m.st.length : Int) - r.2.2.1 + r.2.2.2 > 16
 ·rw [decide_eq_true h2]
  exact bad _ (fun w' h => ⟨rfl, h⟩) (.inr h2)
 ·rw [decide_eq_false h2]
  exact tail _ (fun w' h => ⟨rfl, h⟩) (fun hh => hh.elim h1 h2)
end
theorem rem64 (x : Int) : 0 ≤ (IntKind.u64.wrap x).tmod 64 := by
 have : 0 ≤ IntKind.u64.wrap x := by
  show 0 ≤ x % _
  exact Int.emod_nonneg _ (by decide)
 exact Int.tmod_nonneg _ this
theorem calcG_spec (op y x : Int) (w : World) :
  Meets Tryz.prog 87 #[.int .i64 op, .int .i64 y, .int .i64 x] w fun v w' => v = .int .i64 (calcG op y x) ∧ w' = w := by
 refine f87_ok ?_
 unfold f87
 unfold calcG
 refine eql_at ?_
 refine kB_at ?_
 refine kIf_dec (fun h => ?_) (fun h7 => ?_)
 ·rw [if_pos h]
  unfold f87_0
  rw [kun_neg]
  unfold f87_1
  rw [kint_add]; exact ⟨rfl, rfl⟩
 rw [if_neg h7]
 refine eql_at ?_
 refine kB_at ?_
 refine kIf_dec (fun h => ?_) (fun h6 => ?_)
 ·rw [if_pos h]
  unfold f87_1
  rw [kint_add]; exact ⟨rfl, rfl⟩
 rw [if_neg h6]
 refine eql_at ?_
 refine kB_at ?_
 refine kIf_dec (fun h => ?_) (fun h8 => ?_)
 ·rw [if_pos h]
  unfold f87_4
  rw [kint_mul]; exact ⟨rfl, rfl⟩
 rw [if_neg h8]
 refine eql_at ?_
 refine kB_at ?_
 refine kIf_dec (fun h => ?_) (fun h9 => ?_)
 ·rw [if_pos h]
  unfold f87_6
  refine kcall_of (quotient_spec y x w) ?_
  rintro v w' h
  exact h
 rw [if_neg h9]
 refine eql_at ?_
 refine kB_at ?_
 refine kIf_dec (fun h => ?_) (fun h10 => ?_)
 ·rw [if_pos h]
  unfold f87_8
  unfold modF
  refine eql_at ?_
  refine kB_at ?_
  refine kIf_dec (fun h0 => ?_) (fun h0 => ?_)
  ·rw [if_pos h0]; exact ⟨rfl, rfl⟩
  ·unfold f87_9
   rw [if_neg h0]
   refine kcall_of (quotient_spec y x w) ?_
   rintro v w' ⟨rfl, rfl⟩
   rw [kint_mul, kint_sub]; exact ⟨rfl, rfl⟩
 rw [if_neg h10]
 refine eql_at ?_
 refine kB_at ?_
 refine kIf_dec (fun h => ?_) (fun h12 => ?_)
 ·rw [if_pos h]
  unfold f87_11
  rw [kint_and]; exact ⟨rfl, rfl⟩
 rw [if_neg h12]
 refine eql_at ?_
 refine kB_at ?_
 refine kIf_dec (fun h => ?_) (fun h13 => ?_)
 ·rw [if_pos h]
  unfold f87_13
  rw [kint_or]; exact ⟨rfl, rfl⟩
 rw [if_neg h13]
 refine eql_at ?_
 refine kB_at ?_
 refine kIf_dec (fun h => ?_) (fun h14 => ?_)
 ·rw [if_pos h]
  unfold f87_15
  rw [kint_xor]; exact ⟨rfl, rfl⟩
 rw [if_neg h14]
 refine eql_at ?_
 refine kB_at ?_
 refine kIf_dec (fun h => ?_) (fun h15 => ?_)
 ·rw [if_pos h]
  unfold f87_17
  rw [kcnv_int, kint_rem]
  refine kG_of (by decide) ?_
  rw [kint_shl]
  exact kG_of (rem64 x) ⟨rfl, rfl⟩
 rw [if_neg h15]
 refine eql_at ?_
 refine kB_at ?_
 refine kIf_dec (fun h => ?_) (fun h16 => ?_)
 ·rw [if_pos h]
  unfold f87_19
  rw [kcnv_int, kint_rem]
  refine kG_of (by decide) ?_
  rw [kint_shr]
  exact kG_of (rem64 x) ⟨rfl, rfl⟩
 rw [if_neg h16]
 refine eql_at ?_
 refine kB_at ?_
 refine kIf_dec (fun h => ?_) (fun h17 => ?_)
 ·rw [if_pos h]
  unfold f87_21
  rw [kint_eql]
  refine kcall_of (flag_spec _ w) ?_
  rintro v w' h
  exact h
 rw [if_neg h17]
 unfold f87_22
 rw [kint_lss]
 refine kcall_of (flag_spec _ w) ?_
 rintro v w' h
 exact h
end
section
attribute [local irreducible] kO kB kStr kInt kN kG kIf kfld kld kldN kst knew kmap kbld kbldS kext kcnv klenStr klen kcap kprt kprtN kbool kint kstr keq kun ksl kix kiv kta kmk kmm ksem ksemU kextf kcallV kcallM kcall kL
def HAt (h : HC) (b : Nat) (w : World) : Prop := ∃ la n lc place sv fuel over, blk w b = some (.cells (millC h la n lc place sv fuel over) 108)
structure HostI {σ : Type} (H : HostM σ) (h : HC) (w0 : World) (ok : IN → Prop) (cost : σ → Nat) (I : (Nat → Prop) → World → σ → Prop) : Prop where
 base : ∀ {X w s}, I X w s → Same w0 w
 lt : ∀ {X w s}, I X w s → ∀ k, X k → w0.heap.size ≤ k ∧ k < w.heap.size
 loc : ∀ {X w w' s}, I X w s → Same w w' → I X w' s
 less : ∀ {X X' w s}, I X w s → (∀ k, X' k → X k) → I X' w s
 grow : ∀ {X fp w w' s}, I X w s → Mod fp w w' → (∀ k, fp k → X k) → I (newB w w' X) w' s
 rdo : ∀ s x, H.rd s x ≠ none → reads x.op
 rdi : ∀ s x, ok x → reads x.op → H.rd s x ≠ none
 read : ∀ {X w s b x}, I X w s → HAt h b w → ok x → Meets Tryz.prog 82 #[.pointer (some ⟨b, 0, none⟩), .agg x.cells.toArray] w fun v w' => v = .tuple #[nV ((H.rd s x).getD 0), .bool (H.rd s x).isSome] ∧ Same w w'
 write : ∀ {X w s b x top}, I X w s → HAt h b w → X b → ok x → (x.op = 23 ∨ x.op = 27 ∨ x.op = 31 ∨ x.op = 32 ∨ x.op = 33 ∨ x.op = 34) → cost s ≤ 5000 → I64 top →
  Meets Tryz.prog 86 #[.pointer (some ⟨b, 0, none⟩), .agg x.cells.toArray, nV top] w fun v w' => I X w' (H.wr s x top) ∧ Mod (fun k => w0.heap.size ≤ k ∧ ¬ X k) w w'
 draw : ∀ {X w s b x n}, I X w s → HAt h b w → X b → ok x → x.op = 28 → cost s ≤ 5000 → I64 n →
  Meets Tryz.prog 85 #[.pointer (some ⟨b, 0, none⟩), nV n] w fun v w' => v = nV (H.dr s n).2 ∧ I X w' (H.dr s n).1 ∧ Mod (fun k => w0.heap.size ≤ k ∧ ¬ X k) w w'
 rd64 : ∀ {X w s x v}, I X w s → ok x → H.rd s x = some v → I64 v
 dr64 : ∀ s n, I64 (H.dr s n).2
 costw : ∀ s x n, cost (H.wr s x n) ≤ cost s + 1
 costd : ∀ s n, cost (H.dr s n).1 ≤ cost s + 1
structure MI {σ : Type} (h : HC) (l : List IN) (bM : Nat) (E : Nat → Prop) (I : (Nat → Prop) → World → σ → Prop) (X : Nat → Prop) (w : World) (m : MS σ) : Prop where
 ml : MlAt h l bM E X w m
 hi : I X w m.h
 e : ∀ k, E k → X k
section
variable {σ : Type} {H : HostM σ} {h : HC} {w0 : World} {ok : IN → Prop} {cost : σ → Nat} {I : (Nat → Prop) → World → σ → Prop} {l : List IN} {bM : Nat} {E X : Nat → Prop} {w w' : World} {m : MS σ}
theorem MI.same (hh : HostI H h w0 ok cost I) (hM : MI h l bM E I X w m) (mm : Same w w') : MI h l bM E I X w' m := ⟨hM.ml.same mm, hh.loc hM.hi mm, hM.e⟩
theorem MI.hat (hM : MI h l bM E I X w m) : HAt h bM w := by
 obtain ⟨la, lc, sv, hb, _⟩ := hM.ml.ex
 exact ⟨_, _, _, _, _, _, _, hb⟩
theorem MI.put (hh : HostI H h w0 ok cost I) (hM : MI h l bM E I X w m) {m' : MS σ} (hs : m'.h = m.h) {fp : Nat → Prop} (mm : Mod fp w w') (hf : ∀ k, fp k → X k ∧ ¬ E k) (hm : MlAt h l bM E (newB w w' X) w' m') :
  (∃ X', MI h l bM E I X' w' m') ∧ Mod (fun k => w0.heap.size ≤ k ∧ ¬ E k) w w' :=
 ⟨⟨_, hm, by rw [hs]; exact hh.grow hM.hi mm fun k hk => (hf k hk).1, fun k hk => .inl (hM.e k hk)⟩, mm.mono fun k _ hk => ⟨(hh.lt hM.hi k (hf k hk).1).1, (hf k hk).2⟩⟩
theorem MI.act (hM : MI h l bM E I X w m) {s : σ} (hi : I X w' s) (mm : Mod (fun k => w0.heap.size ≤ k ∧ ¬ X k) w w') :
  MI h l bM E I X w' (m.hosts s) ∧ Mod (fun k => w0.heap.size ≤ k ∧ ¬ E k) w w' :=
 ⟨⟨(hM.ml.mod mm fun k hk hn => hn.2 hk).hosts s, hi, hM.e⟩, mm.mono fun k _ hk => ⟨hk.1, fun he => hk.2 (hM.e k he)⟩⟩
theorem mlLayI (hh : HostI H h w0 ok cost I) (hM : MI h l bM E I X w m) (ns : List Int) {a : Option Addr} {n c : Nat} (hs : SlIs w a n 1 (ns.map nV)) (h1 : m.st.length ≤ 16) (h2 : ns.length ≤ 3) :
  Meets Tryz.prog 83 #[.pointer (some ⟨bM, 0, none⟩), .slice a n c] w fun v w' => (∃ X', MI h l bM E I X' w' (m.lays ns)) ∧ Mod (fun k => w0.heap.size ≤ k ∧ ¬ E k) w w' :=
 (mlLay hM.ml (fun k hk => (hh.lt hM.hi k (hM.e k hk)).2) ns hs (by omega) (by omega)).mono fun v w' ⟨a1, a2⟩ => hM.put hh rfl a2 (fun k hk => hk) a1
theorem nthF_eq {ks : List Int} {i : Nat} (hi : i < ks.length) : ks[i] = nthF ks i := by
 unfold nthF
 rw [List.getD_eq_getElem?_getD, List.getElem?_eq_getElem hi]; rfl
def numL (l : List Int) : Prop := ∀ v ∈ l, I64 v
theorem I64_0 : I64 0 := by unfold I64; omega
theorem nthF64 {l : List Int} (h : numL l) (i : Nat) : I64 (nthF l i) := by
 by_cases hi : i < l.length
 ·rw [← nthF_eq hi]; exact h _ (List.getElem_mem hi)
 ·unfold nthF
  rw [List.getD_eq_getElem?_getD, List.getElem?_eq_none (by omega)]; exact I64_0
theorem kixn {w w' : World} {a : Option Addr} {ks : List Int} {c : Nat} {e : TypeId} {i : Nat} {K : Value → Prop} (hs : SlIs w a ks.length 1 (ks.map nV)) (hi : i < ks.length) (hw : w'.heap = w.heap) (hK : K (nV (nthF ks i))) :
  kix (some (.slice e)) (some 1) (.slice a ks.length c) (.int .i64 (i : Int)) fun v1 => kld v1 w' K :=
 kixld_of (F := nV) hs hi hw (by rw [nthF_eq hi]; exact hK)
def DoP (h : HC) (w0 : World) (l : List IN) (bM : Nat) (E : Nat → Prop) (I : (Nat → Prop) → World → σ → Prop) (w : World) (z : MS σ) (w' : World) : Prop :=
 (∃ X', MI h l bM E I X' w' z) ∧ Mod (fun k => w0.heap.size ≤ k ∧ ¬ E k) w w'
theorem DoP.from {w1 : World} {z : MS σ} (h1 : Mod (fun k => w0.heap.size ≤ k ∧ ¬ E k) w w1) (hd : DoP h w0 l bM E I w1 z w') : DoP h w0 l bM E I w z w' := ⟨hd.1, h1.trans hd.2⟩
theorem DoP.same {w1 : World} {z : MS σ} (h1 : Same w w1) (hd : DoP h w0 l bM E I w1 z w') : DoP h w0 l bM E I w z w' := ⟨hd.1, (Mod.of_same h1).trans hd.2⟩
theorem mlDo (hh : HostI H h w0 ok cost I) (hM : MI h l bM E I X w m) (x : IN) (hok : ok x) (hx : 0 ≤ x.op ∧ x.op < 36) (hj : (x.op = 20 ∨ x.op = 21) → 0 ≤ x.a) (hc : cost m.h ≤ 5000) (hst : m.st.length ≤ 16)
  {a : Option Addr} {c : Nat} {ks : List Int} (hs : SlIs w a ks.length 1 (ks.map nV)) (has : ks.length = takesF x.op) (hks : numL ks) :
  Meets Tryz.prog 44 #[.pointer (some ⟨bM, 0, none⟩), .agg x.cells.toArray, .slice a ks.length c] w fun v w' => DoP h w0 l bM E I w (doF H m x ks) w' := by
 refine f44_ok ?_
 unfold f44
 refine knew_of fun w2 h2 hs2 hb2 => ?_
 have hb2 : blk w2.drew w.heap.size = some (.cells x.cells.toArray 67) := hb2
 have m2 : Same w w2.drew := h2.drew
 generalize w2.drew = wd at *
 refine kN_at ?_
 refine kfld_of ?_
 refine kldN_at hb2 rfl (by omega) ?_
 refine kG_of rfl ?_
 have hM2 := hM.same hh m2
 refine kcall_of (hh.read hM2.hi hM2.hat hok) ?_
 rintro v w6 ⟨rfl, h6⟩
 have m6 := m2.trans h6
 have hb6 := h6.get hb2 (fun h => h)
 have hM6 := hM.same hh m6
 have hs6 := hs.same m6
 clear hM2
 cases hr : H.rd m.h x with
 | some v =>
  have e : doF H m x ks = m.lays [v] := by unfold doF; rw [hr]
  rw [e]
  refine kext_at rfl ?_
  refine kext_at rfl ?_
  refine kB_at ?_
  refine kIf_T rfl ?_
  refine kbldS_of (cs := [nV v]) rfl fun w10 h10 hs10 hb10 => ?_
  refine kcall_of (mlLayI hh (hM6.same hh h10) [v] (SlIs.blk hb10 rfl) hst (by simp)) ?_
  rintro v' w12 h12
  exact DoP.same (m6.trans h10) h12
 | none =>
  have e : doF H m x ks = doN H m x ks := by unfold doF; rw [hr]
  rw [e]
  refine kext_at rfl ?_
  refine kext_at rfl ?_
  refine kB_at ?_
  refine kIf_F rfl ?_
  unfold f44_0
  unfold doN
  have m6d : Same w w6.drew := m6.drew
  have hM6d := hM.same hh m6d
  have hb6d : blk w6.drew w.heap.size = some (.cells x.cells.toArray 67) := hb6
  have hs6d := hs.same m6d
  refine kfld_of ?_
  refine kld_of (v := .int .i64 x.op) hb6 rfl ?_
  refine eql_at ?_
  refine kB_at ?_
  refine kIf_dec (fun ho => ?_) (fun h2 => ?_)
  ·have ha : ks.length = 1 := by rw [has, ho]; rfl
   rw [if_pos ho]
   unfold f44_1
   refine kixn hs6 (i := 0) (by omega) rfl ?_
   refine kG_of rfl ?_
   refine kixn hs6 (i := 0) (by omega) rfl ?_
   refine kG_of rfl ?_
   refine kbldS_of (cs := [nV (nthF ks 0), nV (nthF ks 0)]) rfl fun w10 h10 hs10 hb10 => ?_
   refine kcall_of (mlLayI hh (hM6d.same hh h10) [nthF ks 0, nthF ks 0] (SlIs.blk hb10 rfl) hst (by simp)) ?_
   rintro v' w12 h12
   exact DoP.same (m6d.trans h10) h12
  rw [if_neg h2]
  unfold f44_2
  refine eql_at ?_
  refine kB_at ?_
  refine kIf_dec (fun ho => ?_) (fun h4 => ?_)
  ·have ha : ks.length = 2 := by rw [has, ho]; rfl
   rw [if_pos ho]
   unfold f44_3
   refine kixn hs6 (i := 1) (by omega) rfl ?_
   refine kG_of rfl ?_
   refine kixn hs6 (i := 0) (by omega) rfl ?_
   refine kG_of rfl ?_
   refine kbldS_of (cs := [nV (nthF ks 1), nV (nthF ks 0)]) rfl fun w10 h10 hs10 hb10 => ?_
   refine kcall_of (mlLayI hh (hM6d.same hh h10) [nthF ks 1, nthF ks 0] (SlIs.blk hb10 rfl) hst (by simp)) ?_
   rintro v' w12 h12
   exact DoP.same (m6d.trans h10) h12
  rw [if_neg h4]
  unfold f44_4
  refine eql_at ?_
  refine kB_at ?_
  refine kIf_dec (fun ho => ?_) (fun h5 => ?_)
  ·have ha : ks.length = 2 := by rw [has, ho]; rfl
   rw [if_pos ho]
   unfold f44_5
   refine kixn hs6 (i := 0) (by omega) rfl ?_
   refine kG_of rfl ?_
   refine kixn hs6 (i := 1) (by omega) rfl ?_
   refine kG_of rfl ?_
   refine kixn hs6 (i := 0) (by omega) rfl ?_
   refine kG_of rfl ?_
   refine kbldS_of (cs := [nV (nthF ks 0), nV (nthF ks 1), nV (nthF ks 0)]) rfl fun w10 h10 hs10 hb10 => ?_
   refine kcall_of (mlLayI hh (hM6d.same hh h10) [nthF ks 0, nthF ks 1, nthF ks 0] (SlIs.blk hb10 rfl) hst (by simp)) ?_
   rintro v' w12 h12
   exact DoP.same (m6d.trans h10) h12
  rw [if_neg h5]
  unfold f44_6
  refine eql_at ?_
  refine kB_at ?_
  refine kIf_dec (fun ho => ?_) (fun h11 => ?_)
  ·have ha : ks.length = 1 := by rw [has, ho]; rfl
   rw [if_pos ho]
   unfold f44_7
   refine kixn hs6 (i := 0) (by omega) rfl ?_
   unfold nV
   rw [kun_neg]
   refine kbldS_of (cs := [nV (IntKind.i64.wrap (0 - nthF ks 0))]) rfl fun w10 h10 hs10 hb10 => ?_
   refine kcall_of (mlLayI hh (hM6.same hh h10) [IntKind.i64.wrap (0 - nthF ks 0)] (SlIs.blk hb10 rfl) hst (by simp)) ?_
   rintro v' w12 h12
   exact DoP.same (m6.trans h10) h12
  rw [if_neg h11]
  unfold f44_8
  refine eql_at ?_
  refine kB_at ?_
  refine kIf_dec (fun ho => ?_) (fun h19 => ?_)
  ·have ha : ks.length = 1 := by rw [has, ho]; rfl
   rw [if_pos ho]
   unfold f44_9
   refine kixn hs6 (i := 0) (by omega) rfl ?_
   refine eql_at ?_
   refine kcall_of (flag_spec _ w6) ?_
   rintro v' w8 ⟨rfl, rfl⟩
   refine kbldS_of (cs := [nV (flagF (decide (nthF ks 0 = 0)))]) rfl fun w10 h10 hs10 hb10 => ?_
   refine kcall_of (mlLayI hh (hM6.same hh h10) [flagF (decide (nthF ks 0 = 0))] (SlIs.blk hb10 rfl) hst (by simp)) ?_
   rintro v' w12 h12
   exact DoP.same (m6.trans h10) h12
  rw [if_neg h19]
  unfold f44_10
  refine eql_at ?_
  refine kB_at ?_
  refine kIf_dec (fun ho => ?_) (fun h28 => ?_)
  ·have ha : ks.length = 1 := by rw [has, ho]; rfl
   rw [if_pos ho]
   unfold f44_11
   refine kixn hs6 (i := 0) (by omega) rfl ?_
   refine kcall_of (hh.draw (n := nthF ks 0) hM6.hi hM6.hat hM6.ml.own.1 hok ho hc (nthF64 hks 0)) ?_
   rintro v' w8 ⟨rfl, hi8, mm8⟩
   obtain ⟨hM8, mm8⟩ := hM6.act hi8 mm8
   refine kbldS_of (cs := [nV (H.dr m.h (nthF ks 0)).2]) rfl fun w10 h10 hs10 hb10 => ?_
   refine kcall_of (mlLayI hh (hM8.same hh h10) [(H.dr m.h (nthF ks 0)).2] (SlIs.blk hb10 rfl) hst (by simp)) ?_
   rintro v' w12 h12
   exact DoP.same m6 (DoP.from mm8 (DoP.same h10 h12))
  rw [if_neg h28]
  have none6 : DoP h w0 l bM E I w m w6 := DoP.same m6 ⟨⟨_, hM6⟩, Mod.refl _ _⟩
  unfold f44_12
  refine eql_at ?_
  refine kB_at ?_
  refine kIf_dec (fun ho => ?_) (fun h0 => ?_)
  ·rw [if_pos ho]
   unfold f44_13
   refine kB_at ?_
   refine kIf_T (decT ho) ?_
   exact none6
  rw [if_neg h0]
  refine eql_at ?_
  unfold f44_13
  refine kB_at ?_
  refine kIf_dec (fun ho => ?_) (fun h3 => ?_)
  ·rw [if_pos ho]
   exact none6
  rw [if_neg h3]
  unfold f44_14
  refine eql_at ?_
  refine kB_at ?_
  refine kIf_dec (fun ho => ?_) (fun h35 => ?_)
  ·rw [if_pos ho]
   unfold f44_15
   obtain ⟨la, lc, sv, hb, _⟩ := hM6.ml.ex
   refine kN_at ?_
   refine kfld_of ?_
   refine kst1_of hb rfl rfl (by simp [millC]) fun w7 h7 hs7 hb7 => ?_
   refine DoP.same m6 (hM6.put hh rfl h7 (fun k hk => hk ▸ hM6.ml.own) ((hM6.ml.set (m' := m.ends) rfl h7 fun la' lc' sv' e => ?_).weak fun k hk => .inl hk))
   rw [hb] at e
   cases e
   exact hb7
  rw [if_neg h35]
  have jmp : (x.op = 20 ∨ x.op = 21) → ∀ Q : PQ, (∀ w', DoP h w0 l bM E I w (m.goes x.a.toNat) w' → Q (.tuple #[]) w') → f44_18 (.pointer (some ⟨bM, 0, none⟩)) (.pointer (some ⟨w.heap.size, 0, none⟩)) Q w6 := by
   intro ho Q hQ
   unfold f44_18
   have ha := hj ho
   refine kfld_of ?_
   refine kld_of (v := .int .i64 x.a) hb6 rfl ?_
   obtain ⟨la, lc, sv, hb, _⟩ := hM6.ml.ex
   refine kN_at ?_
   refine kfld_of ?_
   refine kst1_of hb rfl rfl (by simp [millC]) fun w7 h7 hs7 hb7 => ?_
   refine hQ _ (DoP.same m6 (hM6.put hh rfl h7 (fun k hk => hk ▸ hM6.ml.own) ((hM6.ml.set (m' := m.goes x.a.toNat) rfl h7 fun la' lc' sv' e => ?_).weak fun k hk => .inl hk)))
   rw [hb] at e
   cases e
   rw [hb7]
   have : (.int .i64 x.a : Value) = natV x.a.toNat := by unfold natV; rw [Int.toNat_of_nonneg ha]
   rw [this]
   rfl
  unfold f44_16
  refine eql_at ?_
  refine kB_at ?_
  refine kIf_dec (fun ho => ?_) (fun h21 => ?_)
  ·have ha : ks.length = 1 := by rw [has, ho]; rfl
   rw [if_pos ho]
   unfold f44_17
   refine kixn hs6 (i := 0) (by omega) rfl ?_
   refine neq_at ?_
   refine kB_at ?_
   refine kIf_dec (fun hn => ?_) (fun hn => ?_)
   ·rw [if_pos hn]
    exact none6
   ·rw [if_neg hn]
    exact jmp (.inr ho) _ fun w' h => h
  rw [if_neg h21]
  unfold f44_19
  refine eql_at ?_
  refine kB_at ?_
  refine kIf_dec (fun ho => ?_) (fun h20 => ?_)
  ·rw [if_pos ho]
   exact jmp (.inl ho) _ fun w' h => h
  rw [if_neg h20]
  have wr : (x.op = 23 ∨ x.op = 27 ∨ x.op = 31 ∨ x.op = 32 ∨ x.op = 33 ∨ x.op = 34) → ∀ (top : Int), I64 top → ∀ (Q : PQ), (∀ w', DoP h w0 l bM E I w (m.hosts (H.wr m.h x top)) w' → Q (.tuple #[]) w') → kcall Tryz.prog 86 #[.pointer (some ⟨bM, 0, none⟩), .agg x.cells.toArray, nV top] w6.drew fun v w9 => Q (.tuple #[]) w9 := by
   intro ho top h64 Q hQ
   refine kcall_of (hh.write (top := top) hM6d.hi hM6d.hat hM6d.ml.own.1 hok ho hc h64) ?_
   rintro v' w8 ⟨hi8, mm8⟩
   obtain ⟨hM8, mm8⟩ := hM6d.act hi8 mm8
   exact hQ _ (DoP.same m6d (DoP.from mm8 ⟨⟨_, hM8⟩, Mod.refl _ _⟩))
  have wr1 : ks.length = 1 → (x.op = 23 ∨ x.op = 27 ∨ x.op = 31 ∨ x.op = 32 ∨ x.op = 33 ∨ x.op = 34) → ∀ (Q : PQ), (∀ w', DoP h w0 l bM E I w (m.hosts (H.wr m.h x (nthF ks 0))) w' → Q (.tuple #[]) w') → f44_22 (.pointer (some ⟨bM, 0, none⟩)) (.slice a ks.length c) (.pointer (some ⟨w.heap.size, 0, none⟩)) Q w6 := by
   intro ha ho Q hQ
   unfold f44_22
   refine kN_at ?_
   refine kfld_of ?_
   refine kldN_at hb6d rfl (by omega) ?_
   refine kG_of rfl ?_
   refine kixn hs6 (i := 0) (by omega) rfl ?_
   refine kG_of rfl ?_
   exact wr ho _ (nthF64 hks 0) Q hQ
  have wr0 : (x.op = 23 ∨ x.op = 27 ∨ x.op = 31 ∨ x.op = 32 ∨ x.op = 33 ∨ x.op = 34) → ∀ (Q : PQ), (∀ w', DoP h w0 l bM E I w (m.hosts (H.wr m.h x 0)) w' → Q (.tuple #[]) w') → f44_25 (.pointer (some ⟨bM, 0, none⟩)) (.pointer (some ⟨w.heap.size, 0, none⟩)) Q w6 := by
   intro ho Q hQ
   unfold f44_25
   refine kN_at ?_
   refine kfld_of ?_
   refine kldN_at hb6d rfl (by omega) ?_
   refine kG_of rfl ?_
   exact wr ho _ I64_0 Q hQ
  unfold f44_20
  refine eql_at ?_
  refine kB_at ?_
  refine kIf_dec (fun ho => ?_) (fun h23 => ?_)
  ·have ha : ks.length = 1 := by rw [has, ho]; rfl
   rw [if_pos ho, decide_eq_true ho]
   unfold f44_21
   refine kB_at ?_
   refine kIf_T rfl ?_
   exact wr1 ha (.inl ho) _ fun w' h => h
  rw [if_neg h23]
  refine eql_at ?_
  unfold f44_21
  refine kB_at ?_
  refine kIf_dec (fun ho => ?_) (fun h27 => ?_)
  ·have ha : ks.length = 1 := by rw [has, ho]; rfl
   rw [if_pos ho]
   exact wr1 ha (.inr (.inl ho)) _ fun w' h => h
  rw [if_neg h27]
  unfold f44_23
  refine eql_at ?_
  refine kB_at ?_
  refine kIf_dec (fun ho => ?_) (fun h31 => ?_)
  ·rw [if_pos ho, decide_eq_true ho]
   unfold f44_24
   refine kB_at ?_
   refine kIf_T rfl ?_
   exact wr0 (by omega) _ fun w' h => h
  rw [if_neg h31]
  refine eql_at ?_
  refine kB_at ?_
  refine kIf_dec (fun ho => ?_) (fun h32 => ?_)
  ·rw [if_pos ho, decide_eq_true ho]
   unfold f44_24
   refine kB_at ?_
   refine kIf_T rfl ?_
   exact wr0 (by omega) _ fun w' h => h
  rw [if_neg h32]
  refine eql_at ?_
  refine kB_at ?_
  refine kIf_dec (fun ho => ?_) (fun h33 => ?_)
  ·rw [if_pos ho, decide_eq_true ho]
   unfold f44_24
   refine kB_at ?_
   refine kIf_T rfl ?_
   exact wr0 (by omega) _ fun w' h => h
  rw [if_neg h33]
  refine eql_at ?_
  unfold f44_24
  refine kB_at ?_
  refine kIf_dec (fun ho => ?_) (fun h34 => ?_)
  ·rw [if_pos ho]
   exact wr0 (by omega) _ fun w' h => h
  rw [if_neg h34]
  have hrd : ¬ reads x.op := fun e => hh.rdi m.h x hok e hr
  have ha : ks.length = 2 := by
   obtain ⟨n, hn⟩ : ∃ n : Nat, x.op = (n : Int) := ⟨x.op.toNat, by omega⟩
   have h36 : n < 36 := by omega
   have hall : ∀ n : Nat, n < 36 → takesF n = 2 ∨ n = 0 ∨ n = 1 ∨ n = 2 ∨ n = 3 ∨ n = 11 ∨ 19 ≤ n := by decide
   rcases hall n h36 with hh | hh
   ·rw [has, hn]; exact hh
   ·unfold reads at hrd
    omega
  unfold f44_26
  refine kfld_of ?_
  refine kld_of (v := .int .i64 x.op) hb6d rfl ?_
  refine kG_of rfl ?_
  refine kixn hs6 (i := 0) (by omega) rfl ?_
  refine kG_of rfl ?_
  refine kixn hs6 (i := 1) (by omega) rfl ?_
  refine kG_of rfl ?_
  refine kcall_of (calcG_spec _ _ _ w6.drew) ?_
  rintro v' w8 ⟨rfl, rfl⟩
  refine kbldS_of (cs := [nV (calcG x.op (nthF ks 0) (nthF ks 1))]) rfl fun w10 h10 hs10 hb10 => ?_
  refine kcall_of (mlLayI hh (hM6d.same hh h10) [calcG x.op (nthF ks 0) (nthF ks 1)] (SlIs.blk hb10 rfl) hst (by simp)) ?_
  rintro v' w12 h12
  exact DoP.same (m6d.trans h10) h12
end
end
section
attribute [local irreducible] kO kB kStr kInt kN kG kIf kfld kld kldN kst knew kmap kbld kbldS kext kcnv klenStr klen kcap kprt kprtN kbool kint kstr keq kun ksl kix kiv kta kmk kmm ksem ksemU kextf kcallV kcallM kcall kL
theorem mlWrong {Sa : Nat → Addr} {k lo : Nat} {x : Value} {w : World} (h : ErrX Sa k lo x w) (hlo : lo ≤ w.heap.size) : Meets Tryz.prog 41 #[x] w fun v w' => ErrX Sa k lo v w' ∧ Same w w' := by
 refine f41_ok ?_
 unfold f41
 refine kcall_of (atX_spec _ h hlo) ?_
 rintro v w' ⟨h1, h2⟩
 exact ⟨h1, h2⟩
def ErrN (Sa : Nat → Addr) (k lo : Nat) (e : Value) (w : World) : Prop := if k = 0 then e = .nilIface else ErrX Sa k lo e w
theorem ErrN.mod {Sa : Nat → Addr} {k lo : Nat} {fp : Nat → Prop} {x : Value} {w w' : World} (h : ErrN Sa k lo x w) (hm : Mod fp w w') (hf : ∀ b, lo ≤ b → b < w.heap.size → ¬ fp b) : ErrN Sa k lo x w' := by
 unfold ErrN at *
 split at h
 ·rename_i hk; rw [if_pos hk]; exact h
 ·rename_i hk; rw [if_neg hk]; exact h.mod hm hf
theorem ErrN.same {Sa : Nat → Addr} {k lo : Nat} {x : Value} {w w' : World} (h : ErrN Sa k lo x w) (hm : Same w w') : ErrN Sa k lo x w' := h.mod hm fun _ _ _ h => h
theorem ErrN.mono {Sa : Nat → Addr} {k lo lo' : Nat} {x : Value} {w : World} (h : ErrN Sa k lo x w) (hlo : lo' ≤ lo) : ErrN Sa k lo' x w := by
 unfold ErrN at *
 split at h
 ·rename_i hk; rw [if_pos hk]; exact h
 ·rename_i hk; rw [if_neg hk]; exact h.mono hlo
theorem ErrN.zero {Sa : Nat → Addr} {lo : Nat} {w : World} : ErrN Sa 0 lo .nilIface w := by unfold ErrN; rw [if_pos rfl]
structure Tld (p : Nat → Prop) (Sa : Nat → Addr) (w0 : World) : Prop where
 hL : LaidP p Sa w0
 hr : RowsAt w0
 k12 : p 12
 k13 : p 13
 k14 : p 14
 k15 : p 15
section
variable {σ : Type} {H : HostM σ} {h : HC} {w0 : World} {ok : IN → Prop} {cost : σ → Nat} {I : (Nat → Prop) → World → σ → Prop} {l : List IN} {bM : Nat} {E X : Nat → Prop} {w w' : World} {m : MS σ} {p : Nat → Prop} {Sa : Nat → Addr}
theorem mlStep (ht : Tld p Sa w0) (hh : HostI H h w0 ok cost I) (hM : MI h l bM E I X w m) (hg : m.good l.length) (hl : l.length ≤ 1000000) (hok : ∀ x ∈ l, ok x) (hc : cost m.h ≤ 5000) (hnum : numL m.st) :
  Meets Tryz.prog 11 #[.pointer (some ⟨bM, 0, none⟩)] w fun v w' => (∃ e, v = .tuple #[.bool (stepF H l m).2.1, e] ∧ ErrN Sa (stepF H l m).2.2 w.heap.size e w') ∧ DoP h w0 l bM E I w (stepF H l m).1 w' := by
 have hb0 := hh.base hM.hi
 obtain ⟨hg1, hg2, hg3⟩ := hg
 have hbM := hM.ml.lt
 refine f11_ok ?_
 unfold f11
 rw [keq_ptr_nil ptMill]
 refine kB_at ?_
 refine kIf_F rfl ?_
 refine kcall_of (mlOver hM.ml) ?_
 rintro v w7 ⟨rfl, h7⟩
 refine kB_at ?_
 have h7d : Same w w7.drew := h7.drew
 refine kIf_of (fun ho => ?_) (fun ho => ?_)
 ·rw [stepF_over ho]
  exact ⟨⟨_, rfl, ErrN.zero⟩, DoP.same h7 ⟨⟨_, hM.same hh h7⟩, Mod.refl _ _⟩⟩
 unfold f11_0
 have hM7 := hM.same hh h7d
 generalize w7.drew = wd at *
 obtain ⟨la, lc, sv, hb, hli, ho', hla, hsv⟩ := hM7.ml.ex
 have hp : m.place < l.length := by
  unfold overF at ho
  rw [Bool.or_eq_false_iff] at ho
  have := of_decide_eq_false ho.2
  omega
 have ho : ¬ overF l.length m = true := by rw [ho]; decide
 have hx : l[m.place]? = some (l[m.place]) := List.getElem?_eq_getElem hp
 rw [stepF_at ho hx]
 have hxin : l[m.place] ∈ l := List.getElem_mem hp
 obtain ⟨b, o, cs, t, f, rfl, hbl, hle, hcs⟩ := hli.at hp (by omega)
 rw [flat_get IN.cells 3 (fun _ => rfl) l m.place hp] at hcs
 generalize l[m.place] = x at *
 refine kN_at ?_
 refine kfld_of ?_
 refine kld_at hb rfl ?_
 refine kG_of rfl ?_
 refine kN_at ?_
 refine kfld_of ?_
 refine kld_at hb rfl ?_
 refine kG_of rfl ?_
 unfold natV
 rw [kix_slice]
 refine kG_of (by omega) ?_
 rw [add_mk, Int.toNat_natCast]
 refine kldN_of (cs := x.cells) hbl (by omega) hcs (by omega) ?_
 refine kG_of rfl ?_
 refine knew_of fun w15 h15 hs15 hb15 => ?_
 have hb15' := h15.get hb (fun h => h)
 refine kG_of ?_ ?_
 ·refine kldN_of (cs := x.cells) (h15.get hbl (fun h => h)) (by omega) hcs (by omega) ?_
  exact ⟨rfl, rfl⟩
 refine kG_of ?_ ?_
 ·refine kld_at hb15' rfl ?_
  exact ⟨rfl, rfl⟩
 refine kG_of ?_ ?_
 ·refine kld_at hb15' rfl ?_
  exact ⟨rfl, rfl⟩
 refine kst_of (vs := x.cells) hb15 rfl rfl rfl (by simp) (by simp [IN.cells]) fun w16 h16 hs16 hb16 => ?_
 have hb16 : blk w16 wd.heap.size = some (.cells x.cells.toArray 67) := hb16
 have h16' : Same wd w16 := Mod.after h15 h16 (fun b hb => by omega)
 have m16 := h7d.trans h16'
 have hM16 := hM.same hh m16
 refine kldN_at hb16 rfl (by omega) ?_
 refine kcall_of (mlCheck (ht.hL.same (hb0.trans m16)) (ht.hr.same (hb0.trans m16)) ht.k12 ht.k13 ht.k14 ht.k15 hM16.ml hl (by omega) x) ?_
 rintro v w19 ⟨rfl, h19⟩
 have m19 := m16.trans h19
 have hM19 := hM.same hh m19
 have hb19 := h19.get hb16 (fun h => h)
 obtain ⟨la2, lc2, sv2, hc19, _⟩ := hM19.ml.ex
 by_cases hck : chkF l.length m x = 0
 ·rw [if_pos hck, if_neg (fun hn => hn hck), keq_nil_nil' ifErr]
  obtain ⟨c1, c2, c3, c4, c5⟩ := chkF_ok hck
  refine kB_at ?_
  refine kIf_F rfl ?_
  unfold f11_1
  refine kN_at ?_
  refine kfld_of ?_
  refine kld_at hc19 rfl ?_
  unfold natV
  refine sub_at (by omega) (by omega) ?_
  rw [show ((m.fuel : Int) - 1) = ((m.fuel - 1 : Nat) : Int) by omega]
  refine kN_at ?_
  refine kfld_of ?_
  refine kst1_of hc19 rfl rfl (by simp [millC]) fun w30 h30 hs30 hb30 => ?_
  have hb30 : blk w30 bM = some (.cells (millC h la2 l.length lc2 m.place sv2 (m.fuel - 1) m.over) 108) := hb30
  refine kN_at ?_
  refine kfld_of ?_
  refine kld_at hb30 rfl ?_
  unfold natV
  refine add_at (by omega) (by omega) ?_
  rw [show ((m.place : Int) + 1) = ((m.place + 1 : Nat) : Int) by omega]
  refine kN_at ?_
  refine kfld_of ?_
  refine kst1_of hb30 rfl rfl (by simp [millC]) fun w35 h35 hs35 hb35 => ?_
  have hb35 : blk w35 bM = some (.cells (millC h la2 l.length lc2 (m.place + 1) sv2 (m.fuel - 1) m.over) 108) := hb35
  have hm35 : Mod (fun k => k = bM) w19 w35 := h30.trans h35
  have hQ35 : MlAt h l bM E X w35 { m with fuel := m.fuel - 1, place := m.place + 1 } := hM19.ml.set rfl hm35 fun la' lc' sv' e => by rw [hc19] at e; cases e; exact hb35
  have hP35 := hM19.put hh (m' := { m with fuel := m.fuel - 1, place := m.place + 1 }) rfl hm35 (fun k hk => hk ▸ hM19.ml.own) (hQ35.weak fun k hk => Or.inl hk)
  obtain ⟨⟨X5, hM35⟩, hf35⟩ := hP35
  have hx35 := hm35.get hb19 (fun e => by have := m16.size; have := h7d.size; omega)
  have hb35s := hh.base hM35.hi
  refine kfld_of ?_
  refine kld_of (v := .int .i64 x.op) hx35 rfl ?_
  refine kcall_of (movesA (ht.hr.same hb35s) x.op) ?_
  rintro v w39 ⟨rfl, h39⟩
  refine kext_at rfl ?_
  refine kext_at rfl ?_
  have h39d : Same w35 w39.drew := h39.drew
  have hM39 := hM35.same hh h39d
  have hx39 := h39d.get hx35 (fun h => h)
  generalize w39.drew = wk at *
  refine kldN_at hx39 rfl (by omega) ?_
  refine kG_of rfl ?_
  obtain ⟨rb1, rb2, rb3, rb4⟩ := rowF_bnd x.op
  have etk : (rowF x.op).2.2.1 = ((takesF x.op : Nat) : Int) := by unfold takesF; omega
  rw [etk]
  refine kcall_of (mlTake hM39.ml (takesF x.op) c3 (by show m.st.length ≤ 1000; omega)) ?_
  rintro v w44 ⟨hov, hMl44, hm44⟩
  have hP44 := hM39.put hh (m' := preF m x) rfl hm44 (fun k hk => hk ▸ hM39.ml.own) (MlAt.weak (X' := newB wk w44 X5) hMl44 fun k hk => Or.inl hk)
  obtain ⟨⟨X6, hM44⟩, hf44⟩ := hP44
  refine kG_of ?_ ?_
  ·refine kldN_at (hm44.get hx39 (fun e => by have := m16.size; have := h7d.size; omega)) rfl (by omega) ?_
   exact ⟨rfl, rfl⟩
  obtain ⟨a, n, c, rfl, hs44, hn44⟩ := hov.is
  have hn44 : n = (m.st.drop (m.st.length - takesF x.op)).length := by simpa using hn44 rfl
  subst hn44
  refine kcall_of (mlDo hh hM44 x (hok x hxin) c2 (fun hj => (c5 hj).1) hc (by show (m.st.take _).length ≤ 16; rw [List.length_take]; omega) hs44 (by rw [List.length_drop]; omega) (fun v hv => hnum v (List.mem_of_mem_drop hv))) ?_
  rintro v w46 h46
  exact ⟨⟨_, rfl, ErrN.zero⟩, DoP.same m19 (DoP.from hf35 (DoP.same h39d (DoP.from hf44 h46)))⟩
 ·rw [if_neg hck, if_pos hck, errV, keq_if_nil' ifErr]
  refine kB_at ?_
  refine kIf_T rfl ?_
  refine kN_at ?_
  refine kfld_of ?_
  refine kst1_of hc19 rfl rfl (by simp [millC]) fun w23 h23 hs23 hb23 => ?_
  have hb23 : blk w23 bM = some (.cells (millC h la2 l.length lc2 m.place sv2 m.fuel true) 108) := hb23
  have hQ23 : MlAt h l bM E X w23 m.ends := hM19.ml.set rfl h23 fun la' lc' sv' e => by rw [hc19] at e; cases e; exact hb23
  have hP23 := hM19.put hh (m' := m.ends) rfl h23 (fun k hk => hk ▸ hM19.ml.own) (hQ23.weak fun k hk => Or.inl hk)
  obtain ⟨⟨X5, hM23⟩, hf23⟩ := hP23
  have hz : w.heap.size ≤ w23.heap.size := Nat.le_trans m19.size h23.size
  refine kcall_of (mlWrong (ErrX.sent Sa (chkF l.length m x) w.heap.size w23) hz) ?_
  rintro v w25 ⟨he, h25⟩
  exact ⟨⟨_, rfl, by unfold ErrN; rw [if_neg hck]; exact he⟩, DoP.same m19 (DoP.from hf23 ⟨⟨_, hM23.same hh h25⟩, Mod.of_same h25⟩)⟩
end
end
section
attribute [local irreducible] kO kB kStr kInt kN kG kIf kfld kld kldN kst knew kmap kbld kbldS kext kcnv klenStr klen kcap kprt kprtN kbool kint kstr keq kun ksl kix kiv kta kmk kmm ksem ksemU kextf kcallV kcallM kcall kL
theorem cloneIn_spec {w : World} {a : Option Addr} {n c : Nat} {us : List Value} (hs : SlIs w a n 3 us) (h1 : oneCells us = true) (hn : us.length ≤ 1099511627776) :
  Meets Tryz.prog 40 #[.slice a n c] w fun v w' => Own w' v 3 us ∧ Same w w' ∧ (∀ b, vblk v b → w.heap.size ≤ b) := by
 refine f40_ok ?_
 unfold f40
 rw [keq_sl_nil slIns]
 refine kB_at ?_
 cases a with
 | none =>
  have : n = 0 := by rcases hs.2 with h | ⟨_, _, _, _, _, h, _⟩; exact h; cases h
  subst this
  have : us = [] := by simpa using hs.1
  subst this
  refine kIf_T rfl ?_
  exact ⟨Own.nil _ _, Mod.refl _ _, fun b hb => by obtain ⟨_, _, _, h⟩ := hb; cases h⟩
 | some a =>
  refine kIf_F rfl ?_
  unfold f40_0
  refine kbldS_of (cs := []) rfl fun w5 h5 hs5 hb5 => ?_
  refine ksem_append apIns (by omega) (vs := []) (Own.blk hb5 (n := 0) (by simp) (by simp [maxLen])) (Src.ofSlIs (hk := (slT_of (P := Tryz.prog) (t := 42) (by kernel_rfl)).choose_spec) c (hs.same h5) h1) (by simp; omega) (by simp; omega) ?_
  intro v' w' ho hm hf
  refine ⟨by simpa using ho, Mod.after h5 hm (fun b hb => by rw [vblk_new hb]; exact Nat.le_refl _), fun b hb => ?_⟩
  rcases hf b hb with h | h
  ·rw [vblk_new h]; exact Nat.le_refl _
  ·omega
theorem nvn (k : Nat) : ¬ vblk (.slice none 0 0) k := by rintro ⟨_, _, _, e⟩; cases e
theorem IN_ones : ∀ l : List IN, oneCells (l.flatMap IN.cells) = true
 | [] => rfl
 | x :: l => by
  rw [List.flatMap_cons]
  show oneCells (.int .i64 x.op :: .int .i64 x.a :: .int .i64 x.b :: l.flatMap IN.cells) = true
  simp only [oneCells, IN_ones l]; rfl
def fuel0 (fuel : Int) : Nat := (min (max fuel 0) 4096).toNat
def MS.first {σ : Type} (fuel : Int) (s : σ) : MS σ := ⟨0, [], fuel0 fuel, false, s⟩
theorem mlNew {w : World} (h : HC) (l : List IN) {a : Option Addr} {c : Nat} (hs : SlIs w a l.length 3 (l.flatMap IN.cells)) (hn : l.length ≤ 1000000) (fuel : Int) :
  Meets Tryz.prog 10 #[.agg h.cells.toArray, .slice a l.length c, .int .i64 fuel] w fun v w' =>
   ∃ bM : Nat, v = .pointer (some ⟨bM, 0, none⟩) ∧ w.heap.size ≤ bM ∧ Same w w' ∧ ∀ {σ : Type} (s : σ) (E X : Nat → Prop), (∀ k, E k → k < w.heap.size) → MlAt h l bM E (newB w w' X) w' (MS.first fuel s) := by
 refine f10_ok ?_
 unfold f10
 refine knew_of fun w2 h2 hs2 hb2 => ?_
 have hb2 : blk w2.drew w.heap.size = some (.cells h.cells.toArray 53) := hb2
 have m2 : Same w w2.drew := h2.drew
 generalize w2.drew = wd at *
 refine kldN_at hb2 rfl (by omega) ?_
 refine kG_of rfl ?_
 refine kcall_of (cloneIn_spec (hs.same m2) (IN_ones l) (by rw [flat_len IN.cells 3 (fun _ => rfl)]; omega)) ?_
 rintro v w5 ⟨ho, h5, hf⟩
 refine kG_of ?_ ?_
 ·refine kldN_at (h5.get hb2 (fun h => h)) rfl (by omega) ?_
  exact ⟨rfl, rfl⟩
 rw [kmm_max, kmm_min]
 obtain ⟨la, n, lc, e, hsl, _⟩ := ho.is
 subst e
 have hlen : n = l.length := by
  have := hsl.1
  rw [flat_len IN.cells 3 (fun _ => rfl)] at this
  omega
 subst hlen
 have hfu : (.int .i64 (min (max fuel 0) 4096) : Value) = natV (fuel0 fuel) := by
  unfold natV fuel0
  rw [Int.toNat_of_nonneg (by omega)]
 rw [hfu]
 refine kbld_of (cs := (millC h la l.length lc 0 (.slice none 0 0) (fuel0 fuel) false).toList) rfl ?_
 refine knew_of fun w12 h12 hs12 hb12 => ?_
 refine ⟨w5.heap.size, rfl, Nat.le_trans m2.size h5.size, m2.trans (h5.trans h12), fun {σ} s E X hE => ?_⟩
 have z5 := Nat.le_trans m2.size h5.size
 have zz := h12.size
 refine ⟨⟨la, lc, .slice none 0 0, hb12, hsl.same h12, Own.nil _ _, fun k f e => ?_, fun k hk => absurd hk (nvn k)⟩, .inr ⟨z5, by omega⟩, fun he => by have := hE _ he; omega⟩
 have hv : vblk (.slice la l.length lc) k := ⟨f, _, _, by rw [e]⟩
 have hlt := ho.vblk_lt hv
 have hlo := hf k hv
 have := m2.size
 exact ⟨⟨.inr ⟨by omega, by omega⟩, by omega, nvn k⟩, by omega⟩
theorem doN_cost {σ : Type} {H : HostM σ} {cost : σ → Nat} (cw : ∀ s x n, cost (H.wr s x n) ≤ cost s + 1) (cd : ∀ s n, cost (H.dr s n).1 ≤ cost s + 1) (m : MS σ) (x : IN) (a : List Int) : cost (doN H m x a).h ≤ cost m.h + 1 := by
 have h0 : ∀ z : MS σ, z.h = m.h → cost z.h ≤ cost m.h + 1 := fun z e => by rw [e]; omega
 unfold doN
 refine ite_at (P := fun z : MS σ => cost z.h ≤ cost m.h + 1) (fun h => h0 _ rfl) (fun h2 => ?_)
 refine ite_at (P := fun z : MS σ => cost z.h ≤ cost m.h + 1) (fun h => h0 _ rfl) (fun h4 => ?_)
 refine ite_at (P := fun z : MS σ => cost z.h ≤ cost m.h + 1) (fun h => h0 _ rfl) (fun h5 => ?_)
 refine ite_at (P := fun z : MS σ => cost z.h ≤ cost m.h + 1) (fun h => h0 _ rfl) (fun h11 => ?_)
 refine ite_at (P := fun z : MS σ => cost z.h ≤ cost m.h + 1) (fun h => h0 _ rfl) (fun h19 => ?_)
 refine ite_at (P := fun z : MS σ => cost z.h ≤ cost m.h + 1) (fun h => cd m.h _) (fun h28 => ?_)
 refine ite_at (P := fun z : MS σ => cost z.h ≤ cost m.h + 1) (fun h => h0 _ rfl) (fun h0' => ?_)
 refine ite_at (P := fun z : MS σ => cost z.h ≤ cost m.h + 1) (fun h => h0 _ rfl) (fun h3 => ?_)
 refine ite_at (P := fun z : MS σ => cost z.h ≤ cost m.h + 1) (fun h => h0 _ rfl) (fun h35 => ?_)
 refine ite_at (P := fun z : MS σ => cost z.h ≤ cost m.h + 1) (fun h => ite_at (P := fun z : MS σ => cost z.h ≤ cost m.h + 1) (fun _ => h0 _ rfl) (fun _ => h0 _ rfl)) (fun h21 => ?_)
 refine ite_at (P := fun z : MS σ => cost z.h ≤ cost m.h + 1) (fun h => h0 _ rfl) (fun h20 => ?_)
 refine ite_at (P := fun z : MS σ => cost z.h ≤ cost m.h + 1) (fun h => cw m.h _ _) (fun h23 => ?_)
 refine ite_at (P := fun z : MS σ => cost z.h ≤ cost m.h + 1) (fun h => cw m.h _ _) (fun h27 => ?_)
 refine ite_at (P := fun z : MS σ => cost z.h ≤ cost m.h + 1) (fun h => cw m.h _ _) (fun h31 => ?_)
 refine ite_at (P := fun z : MS σ => cost z.h ≤ cost m.h + 1) (fun h => cw m.h _ _) (fun h32 => ?_)
 refine ite_at (P := fun z : MS σ => cost z.h ≤ cost m.h + 1) (fun h => cw m.h _ _) (fun h33 => ?_)
 refine ite_at (P := fun z : MS σ => cost z.h ≤ cost m.h + 1) (fun h => cw m.h _ _) (fun h34 => ?_)
 exact h0 _ rfl
theorem flagF64 (b : Bool) : I64 (flagF b) := by unfold flagF I64; split <;> omega
theorem wrap64 (n : Int) : I64 (IntKind.i64.wrap n) := wrap_rng n
theorem calcG64 (op y x : Int) (hy : I64 y) : I64 (calcG op y x) := by
 unfold calcG
 refine ite_at (P := I64) (fun _ => wrap64 _) (fun _ => ?_)
 refine ite_at (P := I64) (fun _ => wrap64 _) (fun _ => ?_)
 refine ite_at (P := I64) (fun _ => wrap64 _) (fun _ => ?_)
 refine ite_at (P := I64) (fun _ => ite_at (P := I64) (fun _ => I64_0) (fun _ => wrap64 _)) (fun _ => ?_)
 refine ite_at (P := I64) (fun _ => ite_at (P := I64) (fun _ => I64_0) (fun _ => wrap64 _)) (fun _ => ?_)
 refine ite_at (P := I64) (fun _ => wrap64 _) (fun _ => ?_)
 refine ite_at (P := I64) (fun _ => wrap64 _) (fun _ => ?_)
 refine ite_at (P := I64) (fun _ => wrap64 _) (fun _ => ?_)
 refine ite_at (P := I64) (fun _ => wrap64 _) (fun _ => ?_)
 refine ite_at (P := I64) (fun _ => ?_) (fun _ => ?_)
 ·unfold shrF ishr
  generalize (min ((IntKind.u64.wrap x).tmod 64).toNat IntKind.i64.bits) = k
  have hp : (0 : Int) < 2 ^ k := Int.pow_pos (by decide)
  rw [Int.fdiv_eq_ediv_of_nonneg _ (by omega)]
  obtain ⟨h1, h2⟩ := hy
  refine ⟨?_, ?_⟩
  ·by_cases h0 : 0 ≤ y
   ·have := Int.ediv_nonneg h0 (by omega : (0 : Int) ≤ 2 ^ k); omega
   ·refine Int.le_ediv_of_mul_le hp ?_
    have : (-9223372036854775808 : Int) * 2 ^ k ≤ -9223372036854775808 * 1 := Int.mul_le_mul_of_nonpos_left (by decide) (by omega)
    omega
  ·by_cases h0 : 0 ≤ y
   ·have := Int.ediv_le_self (2 ^ k) h0; omega
   ·have := Int.ediv_neg_of_neg_of_pos (by omega : y < 0) hp; omega
 refine ite_at (P := I64) (fun _ => flagF64 _) (fun _ => flagF64 _)
theorem lays64 {σ : Type} {m : MS σ} {ns : List Int} (h : numL m.st) (hn : numL ns) : numL (m.lays ns).st := by
 intro v hv
 have hv : v ∈ m.st ++ ns := hv
 rcases List.mem_append.1 hv with hv | hv
 ·exact h v hv
 ·exact hn v hv
theorem num1 {a : Int} (h : I64 a) : numL [a] := fun v hv => by rw [List.mem_singleton.1 hv]; exact h
theorem numC {a : Int} {l : List Int} (h : I64 a) (hl : numL l) : numL (a :: l) := fun v hv => by
 rcases List.mem_cons.1 hv with e | e
 ·rw [e]; exact h
 ·exact hl v e
theorem doN_num {σ : Type} {H : HostM σ} (dr64 : ∀ s n, I64 (H.dr s n).2) {m : MS σ} (x : IN) {a : List Int} (h : numL m.st) (ha : numL a) : numL (doN H m x a).st := by
 have n0 := nthF64 ha 0
 have n1 := nthF64 ha 1
 unfold doN
 refine ite_at (P := fun z : MS σ => numL z.st) (fun _ => lays64 h (numC n0 (num1 n0))) (fun h2 => ?_)
 refine ite_at (P := fun z : MS σ => numL z.st) (fun _ => lays64 h (numC n1 (num1 n0))) (fun h4 => ?_)
 refine ite_at (P := fun z : MS σ => numL z.st) (fun _ => lays64 h (numC n0 (numC n1 (num1 n0)))) (fun h5 => ?_)
 refine ite_at (P := fun z : MS σ => numL z.st) (fun _ => lays64 h (num1 (wrap64 _))) (fun h11 => ?_)
 refine ite_at (P := fun z : MS σ => numL z.st) (fun _ => lays64 h (num1 (flagF64 _))) (fun h19 => ?_)
 refine ite_at (P := fun z : MS σ => numL z.st) (fun _ => lays64 (m := m.hosts _) h (num1 (dr64 _ _))) (fun h28 => ?_)
 refine ite_at (P := fun z : MS σ => numL z.st) (fun _ => h) (fun h0' => ?_)
 refine ite_at (P := fun z : MS σ => numL z.st) (fun _ => h) (fun h3 => ?_)
 refine ite_at (P := fun z : MS σ => numL z.st) (fun _ => h) (fun h35 => ?_)
 refine ite_at (P := fun z : MS σ => numL z.st) (fun _ => ite_at (P := fun z : MS σ => numL z.st) (fun _ => h) (fun _ => h)) (fun h21 => ?_)
 refine ite_at (P := fun z : MS σ => numL z.st) (fun _ => h) (fun h20 => ?_)
 refine ite_at (P := fun z : MS σ => numL z.st) (fun _ => h) (fun h23 => ?_)
 refine ite_at (P := fun z : MS σ => numL z.st) (fun _ => h) (fun h27 => ?_)
 refine ite_at (P := fun z : MS σ => numL z.st) (fun _ => h) (fun h31 => ?_)
 refine ite_at (P := fun z : MS σ => numL z.st) (fun _ => h) (fun h32 => ?_)
 refine ite_at (P := fun z : MS σ => numL z.st) (fun _ => h) (fun h33 => ?_)
 refine ite_at (P := fun z : MS σ => numL z.st) (fun _ => h) (fun h34 => ?_)
 exact lays64 h (num1 (calcG64 _ _ _ n0))
theorem stepF_num {σ : Type} {H : HostM σ} (dr64 : ∀ s n, I64 (H.dr s n).2) {l : List IN} {m : MS σ} (hrd : ∀ x ∈ l, ∀ v, H.rd m.h x = some v → I64 v) (h : numL m.st) : numL (stepF H l m).1.st := by
 by_cases ho : overF l.length m = true
 ·rw [stepF_over ho]; exact h
 ·cases hx : l[m.place]? with
  | none => rw [stepF_none ho hx]; exact h
  | some x =>
   rw [stepF_at ho hx]
   by_cases hc : chkF l.length m x ≠ 0
   ·rw [if_pos hc]; exact h
   ·rw [if_neg hc]
    have hp : numL (preF m x).st := fun v hv => h v (List.mem_of_mem_take hv)
    have ha : numL (m.st.drop (m.st.length - takesF x.op)) := fun v hv => h v (List.mem_of_mem_drop hv)
    show numL (doF H (preF m x) x _).st
    unfold doF
    cases hr : H.rd (preF m x).h x with
    | some v => exact lays64 hp (num1 (hrd x (List.mem_of_getElem? hx) v hr))
    | none => exact doN_num dr64 x hp ha
theorem stepF_cost {σ : Type} {H : HostM σ} {cost : σ → Nat} (cw : ∀ s x n, cost (H.wr s x n) ≤ cost s + 1) (cd : ∀ s n, cost (H.dr s n).1 ≤ cost s + 1) (l : List IN) (m : MS σ) : cost (stepF H l m).1.h ≤ cost m.h + 1 := by
 by_cases ho : overF l.length m = true
 ·rw [stepF_over ho]; exact Nat.le_succ _
 ·cases hx : l[m.place]? with
  | none => rw [stepF_none ho hx]; exact Nat.le_succ _
  | some x =>
   rw [stepF_at ho hx]
   by_cases hc : chkF l.length m x ≠ 0
   ·rw [if_pos hc]; exact Nat.le_succ _
   ·rw [if_neg hc]
    show cost (doF H (preF m x) x _).h ≤ cost m.h + 1
    unfold doF
    cases H.rd (preF m x).h x with
    | some v => exact Nat.le_succ _
    | none => exact doN_cost cw cd (preF m x) x _
section
variable {σ : Type} {H : HostM σ} {h : HC} {w0 : World} {ok : IN → Prop} {cost : σ → Nat} {I : (Nat → Prop) → World → σ → Prop} {l : List IN} {E X : Nat → Prop} {w : World} {p : Nat → Prop} {Sa : Nat → Addr}
def RunI (h : HC) (w0 : World) (H : HostM σ) (cost : σ → Nat) (I : (Nat → Prop) → World → σ → Prop) (l : List IN) (bM : Nat) (E : Nat → Prop) (w : World) (m0 : MS σ) (i : Nat) (w1 : World) : Prop :=
 ∃ X m, MI h l bM E I X w1 m ∧ m.good l.length ∧ m.fuel + i = m0.fuel ∧ cost m.h + m.fuel ≤ 4999 ∧ numL m.st ∧ runF H l (m.fuel + 1) m = runF H l (m0.fuel + 1) m0 ∧ Mod (fun k => w0.heap.size ≤ k ∧ ¬ E k) w w1
theorem mlRun (ht : Tld p Sa w0) (hh : HostI H h w0 ok cost I) {a : Option Addr} {c : Nat} (hs : SlIs w a l.length 3 (l.flatMap IN.cells)) (hl : l.length ≤ 1000000) (hok : ∀ x ∈ l, ok x) {s : σ} (hi : I X w s) (hE : ∀ k, E k → X k) (fuel : Int) (hc : cost s + fuel0 fuel ≤ 4999) :
  Meets Tryz.prog 30 #[.agg h.cells.toArray, .slice a l.length c, .int .i64 fuel] w fun v w' => (∃ e, v = .tuple #[natV (runF H l (fuel0 fuel + 1) (MS.first fuel s)).1.fuel, e] ∧ ErrN Sa (runF H l (fuel0 fuel + 1) (MS.first fuel s)).2 w.heap.size e w') ∧
   (∃ X', I X' w' (runF H l (fuel0 fuel + 1) (MS.first fuel s)).1.h ∧ ∀ k, E k → X' k) ∧ Mod (fun k => w0.heap.size ≤ k ∧ ¬ E k) w w' := by
 have hb0 := hh.base hi
 refine f30_ok ?_
 unfold f30
 refine knew_of fun w2 h2' hs2 hb2 => ?_
 have hb2 : blk w2 w.heap.size = some (.cells h.cells.toArray 53) := hb2
 refine kldN_at hb2 rfl (by omega) ?_
 have hf0 : fuel0 fuel ≤ 4096 := by unfold fuel0; omega
 refine kcall_of (mlNew h l (hs.same h2') hl fuel) ?_
 rintro v w5 ⟨bM, rfl, hbM, h5, hMl⟩
 have m5 := h2'.trans h5
 have hi5 := hh.grow (fp := fun _ => False) (hh.loc hi h2') h5 (fun k hk => hk.elim)
 have hM5 : MI h l bM E I (newB w2 w5 X) w5 (MS.first fuel s) := ⟨hMl s E X fun k hk => Nat.lt_of_lt_of_le (hh.lt hi k (hE k hk)).2 h2'.size, hi5, fun k hk => .inl (hE k hk)⟩
 refine kL0_of (fuel0 fuel) (RunI h w0 H cost I l bM E w (MS.first fuel s)) ⟨lI_0 ⟨_, _, hM5, ⟨Nat.zero_le _, Nat.zero_le _, hf0⟩, rfl, hc, (fun v hv => absurd hv List.not_mem_nil), rfl, Mod.of_same m5⟩, fun w1 hx => ?_⟩
 obtain ⟨i, hi', ⟨X1, m, hM, hg, hfu, hco, hnum, hrun, hmod⟩, hJ⟩ := lI_step hx
 unfold f30_0
 refine kcall_of (mlStep ht hh hM hg hl hok (by omega) hnum) ?_
 rintro v w7 ⟨⟨e, rfl, he⟩, ⟨X2, hM7⟩, hm7⟩
 obtain ⟨g1, g2, g3⟩ := stepF_good H hh.rdo l m hg
 have gc := stepF_cost (cost := cost) hh.costw hh.costd l m
 have hz : w.heap.size ≤ w1.heap.size := hmod.size
 have er : runF H l (m.fuel + 1) m = if (stepF H l m).2.1 = true then runF H l m.fuel (stepF H l m).1 else ((stepF H l m).1, (stepF H l m).2.2) := rfl
 refine kext_at rfl ?_
 refine kext_at rfl ?_
 refine not_at ?_
 refine kB_at ?_
 refine kIf_of (fun hb => ?_) (fun hb => ?_)
 ·have hb : (stepF H l m).2.1 = false := by simpa using hb
  rw [hb, if_neg Bool.false_ne_true] at er
  rw [er] at hrun
  refine kcall_of (mlFuel hM7.ml) ?_
  rintro v w12 ⟨rfl, rfl⟩
  show _ ∧ _ ∧ _
  have er2 : runF H l (fuel0 fuel + 1) (MS.first fuel s) = ((stepF H l m).1, (stepF H l m).2.2) := hrun.symm
  rw [er2]
  exact ⟨⟨e, rfl, he.mono hz⟩, ⟨X2, hM7.hi, hM7.e⟩, hmod.trans hm7⟩
 ·have hb : (stepF H l m).2.1 = true := by simpa using hb
  rw [hb, if_pos rfl] at er
  have g3 := g3 hb
  refine hJ _ (by have : (MS.first fuel s).fuel = fuel0 fuel := rfl; omega) ⟨X2, _, hM7, g1, by omega, by omega, stepF_num hh.dr64 (fun x hx v hv => hh.rd64 hM.hi (hok x hx) hv) hnum, ?_, hmod.trans hm7⟩
  rw [g3, ← er, hrun]
end
end
section
structure Wk where
 D : List Int
 todo : List Nat
def Wk.at' (s : Wk) (p : Nat) : Int := s.D.getD p 0
def takI (op : Int) : Int := (rowF op).2.2.1
def layI (op : Int) : Int := (rowF op).2.2.2
def jumpsB (op : Int) : Bool := decide (op = 20 ∨ op = 21)
def onB (op : Int) : Bool := decide ((0 ≤ op ∧ op < 36) ∧ op ≠ 20 ∧ op ≠ 35)
def comeF (s : Wk) (p : Nat) (d : Int) : Wk × Bool :=
 if s.at' p = -1 then (⟨s.D.set p d, s.todo ++ [p]⟩, true) else (s, decide (s.at' p = d))
def restW (p : Nat) (op d : Int) (r : Wk × Bool) : Wk × Bool :=
 if r.2 = true then (if onB op = true then comeF r.1 (p + 1) d else (r.1, true)) else (r.1, false)
def goW (l : List IN) (s : Wk) (p : Nat) (x : IN) : Wk × Bool :=
 if s.at' p - takI x.op < 0 ∨ 16 < s.at' p - takI x.op + layI x.op then (s, false)
 else restW p x.op (s.at' p - takI x.op + layI x.op) (if jumpsB x.op = true then comeF s x.a.toNat (s.at' p - takI x.op + layI x.op) else (s, true))
def stepW (l : List IN) (s : Wk) (p : Nat) : Wk × Bool := match l[p]? with
 | none => (s, true)
 | some x => goW l s p x
def loopW (l : List IN) : Nat → Wk → Wk × Bool
 | 0, s => (s, true)
 | n + 1, s => match s.todo.getLast? with
  | none => (s, true)
  | some p => if (stepW l ⟨s.D, s.todo.dropLast⟩ p).2 = true then loopW l n (stepW l ⟨s.D, s.todo.dropLast⟩ p).1 else ((stepW l ⟨s.D, s.todo.dropLast⟩ p).1, false)
def Wk.unseen (s : Wk) : Nat := s.D.count (-1)
def Wk.meas (s : Wk) : Nat := s.unseen + s.todo.length
def startW (n : Nat) : Wk := ⟨(List.replicate (n + 1) (-1 : Int)).set 0 0, [0]⟩
def okOp (n : Nat) (x : IN) : Prop := (0 ≤ x.op ∧ x.op < 36) ∧ (jumpsB x.op = true → 0 ≤ x.a ∧ x.a ≤ n)
def depthsOk (l : List IN) : Prop := (∀ x ∈ l, okOp l.length x) ∧ (loopW l (l.length + 1) (startW l.length)).2 = true
def DoneAt (l : List IN) (s : Wk) (p : Nat) : Prop := ∀ x, l[p]? = some x → takI x.op ≤ s.at' p ∧ s.at' p - takI x.op + layI x.op ≤ 16 ∧ (jumpsB x.op = true → s.at' x.a.toNat = s.at' p - takI x.op + layI x.op) ∧ (onB x.op = true → s.at' (p + 1) = s.at' p - takI x.op + layI x.op)
structure Sound (l : List IN) (s : Wk) : Prop where
 len : s.D.length = l.length + 1
 zero : s.at' 0 = 0
 seen : ∀ p, p ≤ l.length → s.at' p = -1 ∨ 0 ≤ s.at' p ∧ (p ∈ s.todo ∨ DoneAt l s p)
 todo : ∀ p ∈ s.todo, p ≤ l.length ∧ 0 ≤ s.at' p ∧ s.at' p ≤ 16
structure More (l : List IN) (s z : Wk) : Prop where
 len : z.D.length = s.D.length
 old : ∀ p, s.at' p ≠ -1 → z.at' p = s.at' p
 new : ∀ p, p ≤ l.length → s.at' p = -1 → z.at' p = -1 ∨ 0 ≤ z.at' p ∧ p ∈ z.todo
 sub : ∀ p ∈ s.todo, p ∈ z.todo
 todo : ∀ p ∈ z.todo, p ∈ s.todo ∨ p ≤ l.length ∧ 0 ≤ z.at' p ∧ z.at' p ≤ 16
 meas : z.meas = s.meas
theorem More.refl (l : List IN) (s : Wk) : More l s s := ⟨rfl, fun _ _ => rfl, fun _ _ h => .inl h, fun _ h => h, fun _ h => .inl h, rfl⟩
theorem More.trans {l : List IN} {a b c : Wk} (h : More l a b) (k : More l b c) : More l a c where
 len := k.len.trans h.len
 old p hp := by rw [k.old p (by rw [h.old p hp]; exact hp), h.old p hp]
 new p hp h1 := by
  rcases h.new p hp h1 with e | ⟨e1, e2⟩
  ·exact k.new p hp e
  ·rw [k.old p (by omega)]
   exact .inr ⟨e1, k.sub p e2⟩
 sub p hp := k.sub p (h.sub p hp)
 todo p hp := by
  rcases k.todo p hp with e | e
  ·rcases h.todo p e with e2 | ⟨e2, e3⟩
   ·exact .inl e2
   ·exact .inr ⟨e2, by rw [k.old p (by omega)]; exact e3⟩
  ·exact .inr e
 meas := k.meas.trans h.meas
theorem at_set (D : List Int) (td : List Nat) (p q : Nat) (d : Int) (hp : p < D.length) : (⟨D.set p d, td⟩ : Wk).at' q = if q = p then d else D.getD q 0 := by
 unfold Wk.at'
 rw [List.getD_eq_getElem?_getD, List.getElem?_set]
 by_cases h : q = p
 ·subst h; rw [if_pos rfl, if_pos rfl, if_pos hp]; rfl
 ·rw [if_neg (fun e => h e.symm), if_neg h, List.getD_eq_getElem?_getD]
theorem count_set {D : List Int} {p : Nat} {d : Int} (hp : p < D.length) (h : D.getD p 0 = -1) (hd : d ≠ -1) : (D.set p d).count (-1) + 1 = D.count (-1) := by
 induction D generalizing p with
 | nil => simp at hp
 | cons a D ih =>
  cases p with
  | zero =>
   have ha : a = -1 := h
   subst ha
   rw [List.set_cons_zero, List.count_cons_of_ne (by exact hd), List.count_cons_self]
  | succ p =>
   rw [List.set_cons_succ, List.count_cons, List.count_cons]
   have := ih (p := p) (by simpa using hp) h
   omega
theorem comeF_more {l : List IN} {s : Wk} (hl : s.D.length = l.length + 1) {p : Nat} (hp : p ≤ l.length) {d : Int} (hd : 0 ≤ d) (hd16 : d ≤ 16) : More l s (comeF s p d).1 ∧ ((comeF s p d).2 = true → (comeF s p d).1.at' p = d) := by
 unfold comeF
 split
 ·rename_i h
  have e : ∀ q, (⟨s.D.set p d, s.todo ++ [p]⟩ : Wk).at' q = if q = p then d else s.at' q := fun q => at_set _ _ _ _ _ (by omega)
  refine ⟨⟨by show (s.D.set p d).length = _; rw [List.length_set], fun q hq => ?_, fun q hq h1 => ?_, fun q hq => List.mem_append_left _ hq, fun q hq => ?_, ?_⟩, fun _ => by show Wk.at' ⟨_, _⟩ p = d; rw [e, if_pos rfl]⟩
  ·show Wk.at' ⟨_, _⟩ q = _
   rw [e, if_neg]
   rintro rfl; exact hq h
  ·show Wk.at' ⟨_, _⟩ q = _ ∨ _
   by_cases hqp : q = p
   ·right
    refine ⟨?_, ?_⟩
    ·show 0 ≤ Wk.at' ⟨_, _⟩ q
     rw [e, if_pos hqp]; exact hd
    ·show q ∈ s.todo ++ [p]
     simp [hqp]
   ·left; rw [e, if_neg hqp]; exact h1
  ·have hq : q ∈ s.todo ++ [p] := hq
   rcases List.mem_append.1 hq with hq | hq
   ·exact .inl hq
   ·have hq : q = p := by simpa using hq
    refine .inr ⟨by omega, ?_⟩
    show 0 ≤ Wk.at' ⟨_, _⟩ q ∧ Wk.at' ⟨_, _⟩ q ≤ 16
    rw [e, if_pos hq]; exact ⟨hd, hd16⟩
  ·show (s.D.set p d).count (-1) + (s.todo ++ [p]).length = s.D.count (-1) + s.todo.length
   have := count_set (D := s.D) (p := p) (d := d) (by omega) h (by omega)
   rw [List.length_append, List.length_singleton]
   omega
 ·exact ⟨More.refl l s, fun h => of_decide_eq_true h⟩
theorem lay_nn (op : Int) : 0 ≤ layI op := by have := rowF_bnd op; unfold layI; omega
theorem stepW_more {l : List IN} (hok : ∀ x ∈ l, okOp l.length x) {s : Wk} (hl : s.D.length = l.length + 1) {p : Nat} (hp : p ≤ l.length) : More l s (stepW l s p).1 ∧ ((stepW l s p).2 = true → 0 ≤ s.at' p → DoneAt l (stepW l s p).1 p) := by
 unfold stepW
 cases hx : l[p]? with
 | none => exact ⟨More.refl l s, fun _ _ x e => by rw [hx] at e; cases e⟩
 | some x =>
  have hpl : p < l.length := (List.getElem?_eq_some_iff.1 hx).1
  obtain ⟨ho, hj⟩ := hok x (List.mem_of_getElem? hx)
  show More l s (goW l s p x).1 ∧ ((goW l s p x).2 = true → _ → DoneAt l (goW l s p x).1 p)
  unfold goW
  by_cases hb : s.at' p - takI x.op < 0 ∨ 16 < s.at' p - takI x.op + layI x.op
  ·rw [if_pos hb]; exact ⟨More.refl l s, fun e => by cases e⟩
  ·rw [if_neg hb]
   have hln := lay_nn x.op
   have hd0 : 0 ≤ s.at' p - takI x.op + layI x.op := by omega
   generalize hd : s.at' p - takI x.op + layI x.op = d at *
   have h1 : More l s (if jumpsB x.op = true then comeF s x.a.toNat d else (s, true)).1 ∧ ((if jumpsB x.op = true then comeF s x.a.toNat d else (s, true)).2 = true → jumpsB x.op = true → (if jumpsB x.op = true then comeF s x.a.toNat d else (s, true)).1.at' x.a.toNat = d) := by
    by_cases hjm : jumpsB x.op = true
    ·rw [if_pos hjm]
     have := hj hjm
     obtain ⟨m, e⟩ := comeF_more hl (p := x.a.toNat) (by omega) hd0 (by omega)
     exact ⟨m, fun h _ => e h⟩
    ·rw [if_neg hjm]
     exact ⟨More.refl l s, fun _ h => absurd h hjm⟩
   generalize (if jumpsB x.op = true then comeF s x.a.toNat d else (s, true)) = r at *
   obtain ⟨z, b⟩ := r
   obtain ⟨m1, e1⟩ := h1
   have er : restW p x.op d (z, b) = (if b = true then (if onB x.op = true then comeF z (p + 1) d else (z, true)) else (z, false)) := rfl
   rw [er]
   by_cases hbt : b = true
   ·rw [if_pos hbt]
    by_cases hon : onB x.op = true
    ·rw [if_pos hon]
     obtain ⟨m2, e2⟩ := comeF_more (s := z) (l := l) (by rw [m1.len]; exact hl) (p := p + 1) (by omega) hd0 (by omega)
     refine ⟨m1.trans m2, fun hc hp0 y hy => ?_⟩
     rw [hx] at hy; cases hy
     have ep : (comeF z (p + 1) d).1.at' p = s.at' p := by rw [m2.old p (by rw [m1.old p (by omega)]; omega), m1.old p (by omega)]
     rw [ep, hd]
     refine ⟨by omega, by omega, fun hjm => ?_, fun _ => e2 hc⟩
     have := e1 hbt hjm
     rw [m2.old _ (by show z.at' x.a.toNat ≠ -1; rw [this]; omega)]
     exact this
    ·rw [if_neg hon]
     refine ⟨m1, fun hc hp0 y hy => ?_⟩
     rw [hx] at hy; cases hy
     rw [m1.old p (by omega), hd]
     exact ⟨by omega, by omega, fun hjm => e1 hbt hjm, fun h => absurd h hon⟩
   ·rw [if_neg hbt]
    exact ⟨m1, fun e => by cases e⟩
theorem DoneAt.more {l : List IN} {s z : Wk} (h : More l s z) (hok : ∀ x ∈ l, okOp l.length x) {p : Nat} (hp : 0 ≤ s.at' p) (hd : DoneAt l s p) : DoneAt l z p := by
 intro x hx
 obtain ⟨h1, h2, h3, h4⟩ := hd x hx
 have hln := lay_nn x.op
 rw [h.old p (by omega)]
 refine ⟨h1, h2, fun hj => ?_, fun ho => ?_⟩
 ·have := h3 hj
  rw [h.old _ (by omega)]; exact this
 ·have := h4 ho
  rw [h.old _ (by omega)]; exact this
theorem popW_sound {l : List IN} (hok : ∀ x ∈ l, okOp l.length x) {s : Wk} (h : Sound l s) {p : Nat} (hp : s.todo.getLast? = some p) (hs : (stepW l ⟨s.D, s.todo.dropLast⟩ p).2 = true) : Sound l (stepW l ⟨s.D, s.todo.dropLast⟩ p).1 := by
 have hne : s.todo ≠ [] := by rintro e; rw [e] at hp; cases hp
 have hpl : s.todo.getLast hne = p := by
  rw [List.getLast?_eq_some_getLast hne] at hp
  exact Option.some.inj hp
 have hsp : s.todo = s.todo.dropLast ++ [p] := by
  rw [← hpl]; exact (List.dropLast_concat_getLast hne).symm
 have hmem : p ∈ s.todo := by rw [hsp]; simp
 obtain ⟨hple, hp0, _⟩ := h.todo p hmem
 obtain ⟨m, hd⟩ := stepW_more hok (s := ⟨s.D, s.todo.dropLast⟩) (l := l) h.len hple
 have hd := hd hs hp0
 generalize (stepW l ⟨s.D, s.todo.dropLast⟩ p).1 = z at *
 have eat : ∀ q, (⟨s.D, s.todo.dropLast⟩ : Wk).at' q = s.at' q := fun q => rfl
 refine ⟨by rw [m.len]; exact h.len, ?_, fun q hq => ?_, fun q hq => ?_⟩
 ·rw [m.old 0 (by rw [eat, h.zero]; omega), eat]; exact h.zero
 ·rcases h.seen q hq with e | ⟨e0, e⟩
  ·rcases m.new q hq (by rw [eat]; exact e) with e2 | ⟨e2, e3⟩
   ·exact .inl e2
   ·exact .inr ⟨e2, .inl e3⟩
  ·right
   have eq : z.at' q = s.at' q := by rw [m.old q (by rw [eat]; omega), eat]
   refine ⟨by rw [eq]; exact e0, ?_⟩
   by_cases hqp : q = p
   ·subst hqp; exact .inr hd
   ·rcases e with e | e
    ·left
     refine m.sub q ?_
     show q ∈ s.todo.dropLast
     rw [hsp] at e
     rcases List.mem_append.1 e with e | e
     ·exact e
     ·exact absurd (by simpa using e) hqp
    ·exact .inr (DoneAt.more (s := ⟨s.D, s.todo.dropLast⟩) m hok e0 e)
 ·rcases m.todo q hq with e | e
  ·have hq' : q ∈ s.todo := List.dropLast_subset _ e
   obtain ⟨h1, h2⟩ := h.todo q hq'
   refine ⟨h1, ?_⟩
   rw [m.old q (by rw [eat]; omega), eat]; exact h2
  ·exact e
theorem popW_meas {l : List IN} (hok : ∀ x ∈ l, okOp l.length x) {s : Wk} (h : Sound l s) {p : Nat} (hp : s.todo.getLast? = some p) : (stepW l ⟨s.D, s.todo.dropLast⟩ p).1.meas + 1 = s.meas := by
 have hne : s.todo ≠ [] := by rintro e; rw [e] at hp; cases hp
 have hpm : p ∈ s.todo := List.mem_of_getLast? hp
 obtain ⟨m, _⟩ := stepW_more hok (s := ⟨s.D, s.todo.dropLast⟩) (l := l) h.len (h.todo p hpm).1
 rw [m.meas]
 have : 0 < s.todo.length := List.length_pos_iff.2 hne
 show s.D.count (-1) + s.todo.dropLast.length + 1 = s.D.count (-1) + s.todo.length
 rw [List.length_dropLast]; omega
theorem loopW_sound {l : List IN} (hok : ∀ x ∈ l, okOp l.length x) : ∀ (n : Nat) (s : Wk), Sound l s → s.meas ≤ n → (loopW l n s).2 = true → ∃ z, Sound l z ∧ z.todo = []
 | 0, s, h, hm, _ => ⟨s, h, List.length_eq_zero_iff.1 (by unfold Wk.meas at hm; omega)⟩
 | n + 1, s, h, hm, he => by
  unfold loopW at he
  cases hp : s.todo.getLast? with
  | none => exact ⟨s, h, List.getLast?_eq_none_iff.1 hp⟩
  | some p =>
   rw [hp] at he
   simp only at he
   split at he
   ·rename_i hs
    have hm2 := popW_meas hok h hp
    exact loopW_sound hok n _ (popW_sound hok h hp hs) (by omega) he
   ·cases he
theorem startW_sound (l : List IN) : Sound l (startW l.length) where
 len := by unfold startW; rw [List.length_set, List.length_replicate]
 zero := by unfold startW; rw [at_set _ _ _ _ _ (by rw [List.length_replicate]; omega), if_pos rfl]
 seen p hp := by
  unfold startW
  rw [at_set _ _ _ _ _ (by rw [List.length_replicate]; omega)]
  by_cases h : p = 0
  ·subst h; rw [if_pos rfl]; exact .inr ⟨by omega, .inl (by simp)⟩
  ·rw [if_neg h]
   left
   rw [List.getD_eq_getElem?_getD, List.getElem?_replicate, if_pos (by omega)]; rfl
 todo p hp := by
  have hp : p ∈ [0] := hp
  have hp : p = 0 := by simpa using hp
  subst hp
  refine ⟨Nat.zero_le _, ?_⟩
  unfold startW
  rw [at_set _ _ _ _ _ (by rw [List.length_replicate]; omega), if_pos rfl]; omega
theorem startW_meas (n : Nat) : (startW n).meas = n + 1 := by
 show ((List.replicate (n + 1) (-1 : Int)).set 0 0).count (-1) + 1 = n + 1
 have := count_set (D := List.replicate (n + 1) (-1 : Int)) (p := 0) (d := 0) (by rw [List.length_replicate]; omega) (by rw [List.replicate_succ]; rfl) (by omega)
 rw [List.count_replicate_self] at this
 omega
theorem depths_law {l : List IN} (h : depthsOk l) : ∃ z : Wk, z.at' 0 = 0 ∧ ∀ p, p ≤ l.length → 0 ≤ z.at' p → DoneAt l z p := by
 obtain ⟨z, hz, ht⟩ := loopW_sound h.1 _ _ (startW_sound l) (by rw [startW_meas]; exact Nat.le_refl _) h.2
 refine ⟨z, hz.zero, fun p hp h0 => ?_⟩
 rcases hz.seen p hp with e | ⟨_, e | e⟩
 ·omega
 ·rw [ht] at e; cases e
 ·exact e
end
section
structure Exact {σ : Type} (m : MS σ) (x : IN) (z : MS σ) : Prop where
 len : (z.st.length : Int) = m.st.length + layI x.op
 place : (z.place = m.place ∧ x.op ≠ 20) ∨ (jumpsB x.op = true ∧ z.place = x.a.toNat)
 over : z.over = true ∨ x.op ≠ 35
theorem layI_nat (n : Nat) (hn : n < 36) : layI n = (laysN n : Int) := laysN_eq n hn
theorem Exact.lays {σ : Type} {m : MS σ} {x : IN} {ns : List Int} {h : σ} (hn : (ns.length : Int) = layI x.op) (h2 : x.op ≠ 20 ∧ x.op ≠ 35) : Exact m x ((m.hosts h).lays ns) :=
 ⟨by show ((m.st ++ ns).length : Int) = _; rw [List.length_append]; omega, .inl ⟨rfl, h2.1⟩, .inr h2.2⟩
theorem Exact.none {σ : Type} {m z : MS σ} {x : IN} (h1 : layI x.op = 0) (h2 : z.place = m.place) (h3 : z.st = m.st) (h4 : x.op ≠ 20) (h5 : z.over = true ∨ x.op ≠ 35) : Exact m x z :=
 ⟨by rw [h3, h1]; omega, .inl ⟨h2, h4⟩, h5⟩
theorem layI_lit {op : Int} {n k : Nat} (h : op = (n : Int)) (hn : n < 36) (hk : laysN n = k) : layI op = (k : Int) := by
 subst h; rw [layI_nat n hn, hk]
theorem doN_exact {σ : Type} (H : HostM σ) (m : MS σ) (x : IN) (a : List Int) (hx : 0 ≤ x.op ∧ x.op < 36) : Exact m x (doN H m x a) := by
 unfold doN
 refine ite_at (P := Exact m x) (fun h => Exact.lays (h := m.h) (by rw [layI_lit (n := 2) h (by omega) rfl]; rfl) (by omega)) (fun h2 => ?_)
 refine ite_at (P := Exact m x) (fun h => Exact.lays (h := m.h) (by rw [layI_lit (n := 4) h (by omega) rfl]; rfl) (by omega)) (fun h4 => ?_)
 refine ite_at (P := Exact m x) (fun h => Exact.lays (h := m.h) (by rw [layI_lit (n := 5) h (by omega) rfl]; rfl) (by omega)) (fun h5 => ?_)
 refine ite_at (P := Exact m x) (fun h => Exact.lays (h := m.h) (by rw [layI_lit (n := 11) h (by omega) rfl]; rfl) (by omega)) (fun h11 => ?_)
 refine ite_at (P := Exact m x) (fun h => Exact.lays (h := m.h) (by rw [layI_lit (n := 19) h (by omega) rfl]; rfl) (by omega)) (fun h19 => ?_)
 refine ite_at (P := Exact m x) (fun h => Exact.lays (by rw [layI_lit (n := 28) h (by omega) rfl]; rfl) (by omega)) (fun h28 => ?_)
 refine ite_at (P := Exact m x) (fun h => Exact.none (layI_lit (n := 0) h (by omega) rfl) rfl rfl (by omega) (by omega)) (fun h0 => ?_)
 refine ite_at (P := Exact m x) (fun h => Exact.none (layI_lit (n := 3) h (by omega) rfl) rfl rfl (by omega) (by omega)) (fun h3 => ?_)
 refine ite_at (P := Exact m x) (fun h => Exact.none (layI_lit (n := 35) h (by omega) rfl) rfl rfl (by omega) (.inl rfl)) (fun h35 => ?_)
 refine ite_at (P := Exact m x) (fun h => ite_at (P := Exact m x) (fun _ => Exact.none (layI_lit (n := 21) h (by omega) rfl) rfl rfl (by omega) (.inr h35)) (fun _ => ?_)) (fun h21 => ?_)
 ·exact ⟨by rw [layI_lit (n := 21) (k := 0) h (by omega) rfl]; show (m.st.length : Int) = _; omega, .inr ⟨decide_eq_true (.inr h), rfl⟩, .inr h35⟩
 refine ite_at (P := Exact m x) (fun h => ⟨by rw [layI_lit (n := 20) (k := 0) h (by omega) rfl]; show (m.st.length : Int) = _; omega, .inr ⟨decide_eq_true (.inl h), rfl⟩, .inr h35⟩) (fun h20 => ?_)
 refine ite_at (P := Exact m x) (fun h => Exact.none (layI_lit (n := 23) h (by omega) rfl) rfl rfl h20 (.inr h35)) (fun h23 => ?_)
 refine ite_at (P := Exact m x) (fun h => Exact.none (layI_lit (n := 27) h (by omega) rfl) rfl rfl h20 (.inr h35)) (fun h27 => ?_)
 refine ite_at (P := Exact m x) (fun h => Exact.none (layI_lit (n := 31) h (by omega) rfl) rfl rfl h20 (.inr h35)) (fun h31 => ?_)
 refine ite_at (P := Exact m x) (fun h => Exact.none (layI_lit (n := 32) h (by omega) rfl) rfl rfl h20 (.inr h35)) (fun h32 => ?_)
 refine ite_at (P := Exact m x) (fun h => Exact.none (layI_lit (n := 33) h (by omega) rfl) rfl rfl h20 (.inr h35)) (fun h33 => ?_)
 refine ite_at (P := Exact m x) (fun h => Exact.none (layI_lit (n := 34) h (by omega) rfl) rfl rfl h20 (.inr h35)) (fun h34 => ?_)
 refine Exact.lays (h := m.h) ?_ ⟨h20, h35⟩
 obtain ⟨n, hn⟩ : ∃ n : Nat, x.op = (n : Int) := ⟨x.op.toNat, by omega⟩
 rw [layI_lit hn (by omega) rfl]
 unfold laysN
 rw [if_neg (by omega), if_neg (by omega), if_neg (by omega)]
 rfl
theorem doF_exact {σ : Type} (H : HostM σ) (hrd : ∀ s x, H.rd s x ≠ none → reads x.op) (m : MS σ) (x : IN) (a : List Int) (hx : 0 ≤ x.op ∧ x.op < 36) : Exact m x (doF H m x a) := by
 unfold doF
 cases hr : H.rd m.h x with
 | some v =>
  have := hrd m.h x (by rw [hr]; exact fun h => by cases h)
  unfold reads at this
  refine Exact.lays (h := m.h) ?_ (by omega)
  obtain ⟨n, hn⟩ : ∃ n : Nat, x.op = (n : Int) := ⟨x.op.toNat, by omega⟩
  rw [layI_lit hn (by omega) rfl]
  unfold laysN
  rw [if_neg (by omega), if_neg (by omega), if_neg (by omega)]
  rfl
 | none => exact doN_exact H m x a hx
def Fits {σ : Type} (l : List IN) (z : Wk) (m : MS σ) : Prop := m.over = true ∨ (m.place ≤ l.length ∧ z.at' m.place = m.st.length)
theorem stepF_fits {σ : Type} (H : HostM σ) (hrd : ∀ s x, H.rd s x ≠ none → reads x.op) {l : List IN} {z : Wk} (hok : ∀ x ∈ l, okOp l.length x) (hz : ∀ p, p ≤ l.length → 0 ≤ z.at' p → DoneAt l z p) {m : MS σ} (h : Fits l z m) :
  ((stepF H l m).2.1 = true → Fits l z (stepF H l m).1) ∧ ((stepF H l m).2.2 = 0 ∨ (stepF H l m).2.2 = 15 ∧ (stepF H l m).1.fuel = 0) := by
 by_cases ho : overF l.length m = true
 ·rw [stepF_over ho]; exact ⟨fun e => (by cases e), .inl rfl⟩
 ·have hov : m.over = false ∧ (m.place : Int) ≠ l.length := by
   have ho : overF l.length m = false := by simpa using ho
   unfold overF at ho
   rw [Bool.or_eq_false_iff] at ho
   exact ⟨ho.1, of_decide_eq_false ho.2⟩
  rcases h with h | ⟨hp, hd⟩
  ·rw [hov.1] at h; cases h
  have hpl : m.place < l.length := by omega
  have hx : l[m.place]? = some l[m.place] := List.getElem?_eq_getElem hpl
  have hmem : l[m.place] ∈ l := List.getElem_mem hpl
  generalize l[m.place] = x at *
  obtain ⟨hop, hj⟩ := hok x hmem
  obtain ⟨d1, d2, d3, d4⟩ := hz m.place hp (by rw [hd]; omega) x hx
  rw [hd] at d1 d2 d3 d4
  rw [stepF_at ho hx]
  have hb := rowF_bnd x.op
  have hrow : (rowF x.op).1 ≠ [] := by
   obtain ⟨n, hn⟩ : ∃ n : Nat, x.op = (n : Int) := ⟨x.op.toNat, by omega⟩
   rw [hn, rowF_nat n (by omega)]
   have hall : ∀ r ∈ opRows, r.1 ≠ [] := by decide
   exact hall _ (List.getElem_mem _)
  have et : ((takesF x.op : Nat) : Int) = takI x.op := by unfold takesF takI; omega
  by_cases hf : m.fuel = 0
  ·have e : chkF l.length m x = 15 := by unfold chkF; rw [if_pos hf]
   rw [e, if_pos (by omega)]
   exact ⟨fun e => (by cases e), .inr ⟨rfl, hf⟩⟩
  ·have e : chkF l.length m x = 0 := by
    unfold chkF
    have d1' : (rowF x.op).2.2.1 ≤ (m.st.length : Int) := d1
    have d2' : (m.st.length : Int) - (rowF x.op).2.2.1 + (rowF x.op).2.2.2 ≤ 16 := d2
    rw [if_neg hf, if_neg hrow, if_neg (by omega), if_neg]
    rintro ⟨hj', ha⟩
    have := hj (decide_eq_true hj')
    omega
   rw [e, if_neg (by omega)]
   refine ⟨fun _ => ?_, .inl rfl⟩
   obtain ⟨k1, k2, k3⟩ := doF_exact H hrd (preF m x) x (m.st.drop (m.st.length - takesF x.op)) hop
   have kl : ((preF m x).st.length : Int) = m.st.length - takI x.op := by
    show ((m.st.take (m.st.length - takesF x.op)).length : Int) = _
    rw [List.length_take]; omega
   rw [kl] at k1
   have kp : (preF m x).place = m.place + 1 := rfl
   show Fits l z (doF H (preF m x) x (m.st.drop (m.st.length - takesF x.op)))
   rcases k2 with ⟨k2, k4⟩ | ⟨k2, k4⟩
   ·rcases k3 with k3 | k3
    ·exact .inl k3
    ·right
     rw [k2, kp]
     refine ⟨by omega, ?_⟩
     by_cases h21 : x.op = 20
     ·exact absurd h21 k4
     ·rw [d4 (decide_eq_true ⟨hop, h21, k3⟩)]; omega
   ·right
    have := hj k2
    rw [k4]
    exact ⟨by omega, by rw [d3 k2]; omega⟩
end
section
def f15_3 (x1 x5 x29 x30 x31 : Value) (J5 : Value → World → Prop) (Q : PQ) (w : World) : Prop :=
 kint .i64 .add x31 (.int .i64 1) fun v34 =>
 J5 v34 w
def f15_2 (x1 x5 x29 x30 x31 : Value) (J5 : Value → World → Prop) (Q : PQ) (w : World) : Prop :=
 kix (some (.slice 67)) (some 3) x29 x31 fun v26 =>
 kldN 3 v26 w fun v27 =>
 knew #[.int .i64 0, .int .i64 0, .int .i64 0] 67 w fun v28 w29 =>
 kst 3 v28 v27 w29 fun w30 =>
 kldN 3 v28 w30 fun v31 =>
 kcall Tryz.prog 47 #[x5, x31, v31] w30 fun v32 w33 =>
 f15_3 x1 x5 x29 x30 x31 J5 Q w33
def f15_5 (x5 : Value) (Q : PQ) (w : World) : Prop :=
 kN x5 <|
 kfld 3 x5 fun v56 =>
 kld v56 w fun v57 =>
 kcall Tryz.prog 24 #[v57] w fun v58 w59 =>
 Q v58 w59
def f15_4 (x1 x5 : Value) (Q : PQ) (w : World) : Prop :=
 kN x5 <|
 kfld 3 x5 fun v35 =>
 kld v35 w fun v36 =>
 klen v36 fun v37 =>
 kint .i64 .eql v37 (.int .i64 0) fun v39 =>
 kB v39 fun b63 => kIf b63
 (kcall Tryz.prog 48 #[x1] w fun v40 w41 =>
 kext v40 0 fun v42 =>
 kext v40 1 fun v43 =>
 kun .not (some .bool) v43 fun v44 =>
 kB v44 fun b62 => kIf b62
 (kN x5 <|
 kfld 3 x5 fun v45 =>
 kld v45 w41.drew fun v46 =>
 kG (w41.drew = w41.drew) <|
 kld (.pointer (some ⟨3, 0, none⟩)) w41.drew fun v47 =>
 kG (w41.drew = w41.drew) <|
 kcall Tryz.prog 25 #[(.string ⟨#[99, 111, 100, 101]⟩), v47] w41.drew fun v48 w49 =>
 kG (kld v45 w49 fun v61 =>
 v61 = v46 ∧ w49 = w49) <|
 kbldS [.nilIface] 1 [(0, 1, v48)] 33 w49 fun v50 w51 =>
 kG (kld v45 w51 fun v60 =>
 v60 = v46 ∧ w51 = w51) <|
 ksem Tryz.prog (Builtin.append_ #[115, 115] 0 #[v46, v50]) w51 fun v52 w53 =>
 kN x5 <|
 kfld 3 x5 fun v54 =>
 kst 1 v54 v52 w53 fun w55 =>
 f15_5 x5 Q w55)
 (f15_5 x5 Q w41))
 (f15_5 x5 Q w)
def f15_1 (x31 x1 x5 x29 x30 : Value) (J5 : Value → World → Prop) (Q : PQ) (w : World) : Prop :=
 kint .i64 .lss x31 x30 fun v25 =>
 kB v25 fun b64 => kIf b64
 (f15_2 x1 x5 x29 x30 x31 J5 Q w)
 (f15_4 x1 x5 Q w)
def f15_0 (x1 x5 : Value) (Q : PQ) (w : World) : Prop :=
 klen x1 fun v23 =>
 kL fun (I : Value → World → Prop) (μ : Value → World → Nat) => I (.int .i64 0) w ∧ ∀ (x31 : Value) (w1 : World), I x31 w1 →
 f15_1 x31 x1 x5 x1 v23 (fun y31 w2 => I y31 w2 ∧ μ y31 w2 < μ x31 w1) Q w1
def f15 (x0 x1 : Value) (Q : PQ) (w : World) : Prop :=
 knew (Value.cells x0) 25 w fun v1 w2 =>
 kldN 2 v1 w2 fun v3 =>
 klen x1 fun v4 =>
 kbld [.slice none 0 0, .slice none 0 0, .int .i64 0, .slice none 0 0] [(0, 2, v3), (2, 1, v4)] fun v6 =>
 knew (Value.cells v6) 117 w2 fun v7 w8 =>
 klen x1 fun v9 =>
 kint .i64 .gtr v9 (.int .i64 64) fun v11 =>
 kB v11 fun b67 => kIf b67
 (kN v7 <|
 kfld 3 v7 fun v12 =>
 kld v12 w8.drew fun v13 =>
 kG (w8.drew = w8.drew) <|
 kld (.pointer (some ⟨5, 0, none⟩)) w8.drew fun v14 =>
 kG (w8.drew = w8.drew) <|
 kcall Tryz.prog 25 #[(.string ⟨#[99, 111, 100, 101]⟩), v14] w8.drew fun v15 w16 =>
 kG (kld v12 w16 fun v66 =>
 v66 = v13 ∧ w16 = w16) <|
 kbldS [.nilIface] 1 [(0, 1, v15)] 33 w16 fun v17 w18 =>
 kG (kld v12 w18 fun v65 =>
 v65 = v13 ∧ w18 = w18) <|
 ksem Tryz.prog (Builtin.append_ #[115, 115] 0 #[v13, v17]) w18 fun v19 w20 =>
 kN v7 <|
 kfld 3 v7 fun v21 =>
 kst 1 v21 v19 w20 fun w22 =>
 f15_0 x1 v7 Q w22)
 (f15_0 x1 v7 Q w8)
theorem f15_ok {x0 x1 : Value} {Q : PQ} {w : World} (h : f15 x0 x1 Q w) : Meets Tryz.prog 15 #[x0, x1] w Q :=
 sound' (c := Tryz.f15.body.get rfl) [(5, [31])] Tryz.func15 rfl rfl (args := [x0, x1]) rfl (by kernel_rfl) h
def f88 (x0 x1 x2 x3 : Value) (Q : PQ) (w : World) : Prop :=
 kN x0 <|
 kfld 3 x0 fun v1 =>
 kld v1 w.drew fun v2 =>
 kG (w.drew = w.drew) <|
 kcall Tryz.prog 60 #[x1] w.drew fun v3 w4 =>
 kG (kld v1 w4 fun v21 =>
 v21 = v2 ∧ w4 = w4) <|
 kcall Tryz.prog 25 #[x2, x3] w4 fun v5 w6 =>
 kG (kld v1 w6 fun v20 =>
 v20 = v2 ∧ w6 = w6) <|
 kcall Tryz.prog 25 #[v3, v5] w6 fun v7 w8 =>
 kG (kld v1 w8 fun v19 =>
 v19 = v2 ∧ w8 = w8) <|
 kcall Tryz.prog 25 #[(.string ⟨#[99, 111, 100, 101]⟩), v7] w8 fun v9 w10 =>
 kG (kld v1 w10 fun v18 =>
 v18 = v2 ∧ w10 = w10) <|
 kbldS [.nilIface] 1 [(0, 1, v9)] 33 w10 fun v11 w12 =>
 kG (kld v1 w12 fun v17 =>
 v17 = v2 ∧ w12 = w12) <|
 ksem Tryz.prog (Builtin.append_ #[115, 115] 0 #[v2, v11]) w12 fun v13 w14 =>
 kN x0 <|
 kfld 3 x0 fun v15 =>
 kst 1 v15 v13 w14 fun w16 =>
 Q (.tuple #[]) w16
theorem f88_ok {x0 x1 x2 x3 : Value} {Q : PQ} {w : World} (h : f88 x0 x1 x2 x3 Q w) : Meets Tryz.prog 88 #[x0, x1, x2, x3] w Q :=
 sound' (c := Tryz.f88.body.get rfl) [] Tryz.func88 rfl rfl (args := [x0, x1, x2, x3]) rfl (by kernel_rfl) h
def f47_2 (x0 x1 x43 : Value) (Q : PQ) (w : World) : Prop :=
 kB x43 fun b39 => kIf b39
 (kld (.pointer (some ⟨2, 0, none⟩)) w fun v36 =>
 kcall Tryz.prog 88 #[x0, x1, (.string ⟨#[98]⟩), v36] w fun v37 w38 =>
 Q (.tuple #[]) w38)
 (Q (.tuple #[]) w)
def f47_1 (x0 x1 x5 x8 : Value) (Q : PQ) (w : World) : Prop :=
 keq Tryz.prog .eql 33 false true x8 .nilIface w fun v23 w24 =>
 kB v23 fun b25 => kIf (!b25)
 (kfld 0 x5 fun v26 =>
 kld v26 w24 fun v27 =>
 kcall Tryz.prog 90 #[v27] w24 fun v28 w29 =>
 kint .i64 .lss v28 (.int .i64 2) fun v30 =>
 kB v30 fun b31 => kIf b31
 (kldN 3 x5 w29 fun v32 =>
 kcall Tryz.prog 91 #[x0, v32] w29 fun v33 w34 =>
 kun .not (some .bool) v33 fun v35 =>
 f47_2 x0 x1 v35 Q w34)
 (f47_2 x0 x1 (.bool false) Q w29))
 (kldN 3 x5 w24 fun v40 =>
 kcall Tryz.prog 91 #[x0, v40] w24 fun v41 w42 =>
 kun .not (some .bool) v41 fun v43 =>
 f47_2 x0 x1 v43 Q w42)
def f47_0 (x0 x1 x5 : Value) (Q : PQ) (w : World) : Prop :=
 kldN 3 x5 w fun v16 =>
 kcall Tryz.prog 89 #[x0, v16] w fun v17 w18 =>
 keq Tryz.prog .neq 33 false true v17 .nilIface w18 fun v19 w20 =>
 kB v19 fun b44 => kIf b44
 (kcall Tryz.prog 88 #[x0, x1, (.string ⟨#[97]⟩), v17] w20 fun v21 w22 =>
 f47_1 x0 x1 x5 v17 Q w22)
 (f47_1 x0 x1 x5 v17 Q w20)
def f47 (x0 x1 x2 : Value) (Q : PQ) (w : World) : Prop :=
 knew (Value.cells x2) 67 w fun v1 w2 =>
 kfld 0 v1 fun v3 =>
 kld v3 w2 fun v4 =>
 kcall Tryz.prog 81 #[v4] w2 fun v5 w6 =>
 kext v5 0 fun v7 =>
 kext v5 1 fun v8 =>
 knew #[(.string ⟨#[]⟩), .int .i64 0, .int .i64 0, .int .i64 0] 188 w6 fun v9 w10 =>
 kst 4 v9 v7 w10 fun w11 =>
 kun .not (some .bool) v8 fun v12 =>
 kB v12 fun b45 => kIf b45
 (kld (.pointer (some ⟨8, 0, none⟩)) w11 fun v13 =>
 kcall Tryz.prog 88 #[x0, x1, (.string ⟨#[111, 112]⟩), v13] w11 fun v14 w15 =>
 Q (.tuple #[]) w15)
 (f47_0 x0 x1 v1 Q w11)
theorem f47_ok {x0 x1 x2 : Value} {Q : PQ} {w : World} (h : f47 x0 x1 x2 Q w) : Meets Tryz.prog 47 #[x0, x1, x2] w Q :=
 sound' (c := Tryz.f47.body.get rfl) [] Tryz.func47 rfl rfl (args := [x0, x1, x2]) rfl (by kernel_rfl) h
def f89_2 (Q : PQ) (w : World) : Prop :=
 Q .nilIface w
def f89_1 (x5 : Value) (Q : PQ) (w : World) : Prop :=
 kun .not (some .bool) x5 fun v14 =>
 kB v14 fun b16 => kIf b16
 (kld (.pointer (some ⟨2, 0, none⟩)) w fun v15 =>
 Q v15 w)
 (f89_2 Q w)
def f89_5 (x0 x3 x5 x7 x48 : Value) (Q : PQ) (w : World) : Prop :=
 kB x48 fun b60 => kIf b60
 (kfld 1 x3 fun v37 =>
 kld v37 w.drew fun v38 =>
 kG (w.drew = w.drew) <|
 kint .i64 .geq v38 (.int .i64 0) fun v39 =>
 kB v39 fun b40 => kIf b40
 (kfld 1 x3 fun v41 =>
 kld v41 w.drew fun v42 =>
 kG (w.drew = w.drew) <|
 kN x0 <|
 kfld 0 x0 fun v43 =>
 kfld 1 v43 fun v44 =>
 kld v44 w.drew fun v45 =>
 kG (w.drew = w.drew) <|
 klen v45 fun v46 =>
 kint .i64 .lss v42 v46 fun v48 =>
 f89_1 v48 Q w.drew)
 (f89_1 (.bool false) Q w.drew))
 (kint .i64 .eql x7 (.int .i64 31) fun v49 =>
 kB v49 fun b59 => kIf b59
 (kfld 1 x3 fun v50 =>
 kld v50 w fun v51 =>
 kcall Tryz.prog 149 #[x0, v51] w fun v52 w53 =>
 f89_1 v52 Q w53)
 (kint .i64 .eql x7 (.int .i64 1) fun v54 =>
 kB v54 fun b58 => kIf b58
 (f89_1 x5 Q w)
 (kfld 1 x3 fun v55 =>
 kld v55 w fun v56 =>
 kint .i64 .eql v56 (.int .i64 0) fun v57 =>
 f89_1 v57 Q w)))
def f89_4 (x0 x3 x5 x7 x30 : Value) (Q : PQ) (w : World) : Prop :=
 kB x30 fun b64 => kIf b64
 (kfld 1 x3 fun v24 =>
 kld v24 w fun v25 =>
 kcall Tryz.prog 148 #[x0, v25, .bool false] w fun v26 w27 =>
 f89_1 v26 Q w27)
 (kint .i64 .eql x7 (.int .i64 25) fun v28 =>
 kB v28 fun b63 => kIf b63
 (kfld 1 x3 fun v29 =>
 kld v29 w fun v30 =>
 kint .i64 .geq v30 (.int .i64 0) fun v31 =>
 kB v31 fun b32 => kIf b32
 (kfld 1 x3 fun v33 =>
 kld v33 w fun v34 =>
 kint .i64 .lss v34 (.int .i64 2) fun v35 =>
 f89_1 v35 Q w)
 (f89_1 (.bool false) Q w))
 (kint .i64 .eql x7 (.int .i64 26) fun v36 =>
 kB v36 fun b62 => kIf b62
 (f89_5 x0 x3 x5 x7 v36 Q w)
 (kint .i64 .eql x7 (.int .i64 27) fun v61 =>
 f89_5 x0 x3 x5 x7 v61 Q w)))
def f89_3 (x0 x3 x5 x7 x23 : Value) (Q : PQ) (w : World) : Prop :=
 kB x23 fun b69 => kIf b69
 (kfld 1 x3 fun v19 =>
 kld v19 w fun v20 =>
 kcall Tryz.prog 148 #[x0, v20, .bool true] w fun v21 w22 =>
 f89_1 v21 Q w22)
 (kint .i64 .eql x7 (.int .i64 23) fun v23 =>
 kB v23 fun b68 => kIf b68
 (f89_4 x0 x3 x5 x7 v23 Q w)
 (kint .i64 .eql x7 (.int .i64 33) fun v65 =>
 kB v65 fun b67 => kIf b67
 (f89_4 x0 x3 x5 x7 v65 Q w)
 (kint .i64 .eql x7 (.int .i64 34) fun v66 =>
 f89_4 x0 x3 x5 x7 v66 Q w)))
def f89_0 (x0 x3 x5 x7 x11 : Value) (Q : PQ) (w : World) : Prop :=
 kB x11 fun b72 => kIf b72
 (kfld 1 x3 fun v6 =>
 kld v6 w.drew fun v7 =>
 kG (w.drew = w.drew) <|
 kN x0 <|
 kfld 2 x0 fun v8 =>
 kld v8 w.drew fun v9 =>
 kG (w.drew = w.drew) <|
 kcall Tryz.prog 92 #[v7, v9] w.drew fun v10 w11 =>
 kun .not (some .bool) v10 fun v12 =>
 kB v12 fun b17 => kIf b17
 (kld (.pointer (some ⟨9, 0, none⟩)) w11 fun v13 =>
 Q v13 w11)
 (f89_1 x5 Q w11))
 (kint .i64 .eql x7 (.int .i64 22) fun v18 =>
 kB v18 fun b71 => kIf b71
 (f89_3 x0 x3 x5 x7 v18 Q w)
 (kint .i64 .eql x7 (.int .i64 24) fun v70 =>
 f89_3 x0 x3 x5 x7 v70 Q w))
def f89 (x0 x1 : Value) (Q : PQ) (w : World) : Prop :=
 knew (Value.cells x1) 67 w fun v1 w2 =>
 kfld 0 v1 fun v3 =>
 kld v3 w2 fun v4 =>
 kint .i64 .eql v4 (.int .i64 20) fun v5 =>
 kB v5 fun b74 => kIf b74
 (f89_0 x0 v1 (.bool true) v4 v5 Q w2)
 (kint .i64 .eql v4 (.int .i64 21) fun v73 =>
 f89_0 x0 v1 (.bool true) v4 v73 Q w2)
theorem f89_ok {x0 x1 : Value} {Q : PQ} {w : World} (h : f89 x0 x1 Q w) : Meets Tryz.prog 89 #[x0, x1] w Q :=
 sound' (c := Tryz.f89.body.get rfl) [] Tryz.func89 rfl rfl (args := [x0, x1]) rfl (by kernel_rfl) h
def f91_0 (x0 x3 : Value) (Q : PQ) (w : World) : Prop :=
 kfld 2 x3 fun v11 =>
 kld v11 w.drew fun v12 =>
 kG (w.drew = w.drew) <|
 kint .i64 .geq v12 (.int .i64 0) fun v13 =>
 kB v13 fun b14 => kIf b14
 (kfld 2 x3 fun v15 =>
 kld v15 w.drew fun v16 =>
 kG (w.drew = w.drew) <|
 kN x0 <|
 kfld 0 x0 fun v17 =>
 kfld 0 v17 fun v18 =>
 kld v18 w.drew fun v19 =>
 kG (w.drew = w.drew) <|
 kfld 1 x3 fun v20 =>
 kld v20 w.drew fun v21 =>
 kG (w.drew = w.drew) <|
 kix (some (.slice 80)) (some 7) v19 v21 fun v22 =>
 kfld 1 v22 fun v23 =>
 kld v23 w.drew fun v24 =>
 kG (w.drew = w.drew) <|
 kint .i64 .lss v16 v24 fun v25 =>
 Q v25 w.drew)
 (Q (.bool false) w.drew)
def f91 (x0 x1 : Value) (Q : PQ) (w : World) : Prop :=
 knew (Value.cells x1) 67 w fun v1 w2 =>
 kfld 0 v1 fun v3 =>
 kld v3 w2 fun v4 =>
 kcall Tryz.prog 90 #[v4] w2 fun v5 w6 =>
 kint .i64 .lss v5 (.int .i64 2) fun v7 =>
 kB v7 fun b26 => kIf b26
 (kfld 2 v1 fun v8 =>
 kld v8 w6 fun v9 =>
 kint .i64 .eql v9 (.int .i64 0) fun v10 =>
 Q v10 w6)
 (f91_0 x0 v1 Q w6)
theorem f91_ok {x0 x1 : Value} {Q : PQ} {w : World} (h : f91 x0 x1 Q w) : Meets Tryz.prog 91 #[x0, x1] w Q :=
 sound' (c := Tryz.f91.body.get rfl) [] Tryz.func91 rfl rfl (args := [x0, x1]) rfl (by kernel_rfl) h
def f148 (x0 x1 x2 : Value) (Q : PQ) (w : World) : Prop :=
 kint .i64 .geq x1 (.int .i64 0) fun v1 =>
 kB v1 fun b2 => kIf b2
 (kN x0 <|
 kfld 0 x0 fun v3 =>
 kfld 0 v3 fun v4 =>
 kld v4 w fun v5 =>
 klen v5 fun v6 =>
 kint .i64 .lss x1 v6 fun v8 =>
 kB v8 fun b9 => kIf b9
 (kun .not (some .bool) x2 fun v10 =>
 kB v10 fun b11 => kIf (!b11)
 (kN x0 <|
 kfld 0 x0 fun v12 =>
 kfld 0 v12 fun v13 =>
 kld v13 w fun v14 =>
 kix (some (.slice 80)) (some 7) v14 x1 fun v15 =>
 kfld 2 v15 fun v16 =>
 kld v16 w fun v17 =>
 Q v17 w)
 (Q (.bool true) w))
 (Q (.bool false) w))
 (Q (.bool false) w)
theorem f148_ok {x0 x1 x2 : Value} {Q : PQ} {w : World} (h : f148 x0 x1 x2 Q w) : Meets Tryz.prog 148 #[x0, x1, x2] w Q :=
 sound' (c := Tryz.f148.body.get rfl) [] Tryz.func148 rfl rfl (args := [x0, x1, x2]) rfl (by kernel_rfl) h
def f149 (x0 x1 : Value) (Q : PQ) (w : World) : Prop :=
 kN x0 <|
 kfld 0 x0 fun v1 =>
 kfld 0 v1 fun v2 =>
 kld v2 w fun v3 =>
 klen v3 fun v4 =>
 kmm .i64 false v4 (.int .i64 32) fun v6 =>
 kint .i64 .geq x1 (.int .i64 0) fun v8 =>
 kB v8 fun b9 => kIf b9
 (kint .i64 .shr x1 v6 fun v10 =>
 kint .i64 .eql v10 (.int .i64 0) fun v11 =>
 Q v11 w)
 (Q (.bool false) w)
theorem f149_ok {x0 x1 : Value} {Q : PQ} {w : World} (h : f149 x0 x1 Q w) : Meets Tryz.prog 149 #[x0, x1] w Q :=
 sound' (c := Tryz.f149.body.get rfl) [] Tryz.func149 rfl rfl (args := [x0, x1]) rfl (by kernel_rfl) h
def f92 (x0 x1 : Value) (Q : PQ) (w : World) : Prop :=
 kint .i64 .geq x0 (.int .i64 0) fun v1 =>
 kB v1 fun b2 => kIf b2
 (kint .i64 .leq x0 x1 fun v3 =>
 Q v3 w)
 (Q (.bool false) w)
theorem f92_ok {x0 x1 : Value} {Q : PQ} {w : World} (h : f92 x0 x1 Q w) : Meets Tryz.prog 92 #[x0, x1] w Q :=
 sound' (c := Tryz.f92.body.get rfl) [] Tryz.func92 rfl rfl (args := [x0, x1]) rfl (by kernel_rfl) h
def f90 (x0 : Value) (Q : PQ) (w : World) : Prop :=
 kcall Tryz.prog 81 #[x0] w fun v1 w2 =>
 kext v1 0 fun v3 =>
 kext v1 1 fun v4 =>
 knew #[(.string ⟨#[]⟩), .int .i64 0, .int .i64 0, .int .i64 0] 188 w2 fun v5 w6 =>
 kst 4 v5 v3 w6 fun w7 =>
 kfld 1 v5 fun v8 =>
 kld v8 w7 fun v9 =>
 Q v9 w7
theorem f90_ok {x0 : Value} {Q : PQ} {w : World} (h : f90 x0 Q w) : Meets Tryz.prog 90 #[x0] w Q :=
 sound' (c := Tryz.f90.body.get rfl) [] Tryz.func90 rfl rfl (args := [x0]) rfl (by kernel_rfl) h
def f48_2 (x0 x4 x25 x26 : Value) (J3 : Value → World → Prop) (Q : PQ) (w : World) : Prop :=
 kint .i64 .add x26 (.int .i64 1) fun v18 =>
 J3 v18 w
def f48_1 (x0 x4 x25 x26 : Value) (J3 : Value → World → Prop) (Q : PQ) (w : World) : Prop :=
 kN x4 <|
 kfld 1 x4 fun v14 =>
 kld v14 w fun v15 =>
 kix (some (.slice 3)) (some 1) v15 x26 fun v16 =>
 kst 1 v16 (.int .i64 (-1)) w fun w17 =>
 f48_2 x0 x4 x25 x26 J3 Q w17
def f48_7 (x0 x4 x36 x37 x38 : Value) (J8 : Value → World → Prop) (Q : PQ) (w : World) : Prop :=
 kint .i64 .add x38 (.int .i64 1) fun v52 =>
 J8 v52 w
def f48_6 (x0 x4 x36 x37 x38 x66 : Value) (J8 : Value → World → Prop) (Q : PQ) (w : World) : Prop :=
 kB x66 fun b53 => kIf b53
 (Q (.tuple #[.slice none 0 0, .bool false]) w)
 (f48_7 x0 x4 x36 x37 x38 J8 Q w)
def f48_5 (x0 x4 x36 x37 x38 : Value) (J8 : Value → World → Prop) (Q : PQ) (w : World) : Prop :=
 kix (some (.slice 67)) (some 3) x36 x38 fun v22 =>
 kldN 3 v22 w fun v23 =>
 knew #[.int .i64 0, .int .i64 0, .int .i64 0] 67 w fun v24 w25 =>
 kst 3 v24 v23 w25 fun w26 =>
 kfld 0 v24 fun v27 =>
 kld v27 w26 fun v28 =>
 kcall Tryz.prog 81 #[v28] w26 fun v29 w30 =>
 kext v29 0 fun v31 =>
 kext v29 1 fun v32 =>
 knew #[(.string ⟨#[]⟩), .int .i64 0, .int .i64 0, .int .i64 0] 188 w30 fun v33 w34 =>
 kst 4 v33 v31 w34 fun w35 =>
 kfld 0 v24 fun v36 =>
 kld v36 w35 fun v37 =>
 kcall Tryz.prog 79 #[v37] w35 fun v38 w39 =>
 kext v38 0 fun v40 =>
 kext v38 1 fun v41 =>
 kun .not (some .bool) v32 fun v42 =>
 kB v42 fun b43 => kIf (!b43)
 (kB v40 fun b44 => kIf b44
 (kfld 1 v24 fun v45 =>
 kld v45 w39 fun v46 =>
 klen x0 fun v47 =>
 kcall Tryz.prog 92 #[v46, v47] w39 fun v49 w50 =>
 kun .not (some .bool) v49 fun v51 =>
 f48_6 x0 x4 x36 x37 x38 v51 J8 Q w50)
 (f48_6 x0 x4 x36 x37 x38 (.bool false) J8 Q w39))
 (f48_6 x0 x4 x36 x37 x38 (.bool true) J8 Q w39)
def f48_10 (x4 : Value) (J16 : World → Prop) (Q : PQ) (w : World) : Prop :=
 kN x4 <|
 kfld 2 x4 fun v61 =>
 kld v61 w fun v62 =>
 klen v62 fun v63 =>
 kint .i64 .sub v63 (.int .i64 1) fun v65 =>
 kN x4 <|
 kfld 2 x4 fun v66 =>
 kld v66 w fun v67 =>
 kix (some (.slice 3)) (some 1) v67 v65 fun v68 =>
 kld v68 w fun v69 =>
 kN x4 <|
 kfld 2 x4 fun v70 =>
 kld v70 w fun v71 =>
 ksl (some (.slice 3)) (some 1) v71 none (some v65) fun v72 =>
 kN x4 <|
 kfld 2 x4 fun v73 =>
 kst 1 v73 v72 w fun w74 =>
 kcall Tryz.prog 94 #[x4, v69] w74 fun v75 w76 =>
 kun .not (some .bool) v75 fun v77 =>
 kB v77 fun b78 => kIf b78
 (Q (.tuple #[.slice none 0 0, .bool false]) w76)
 (J16 w76)
def f48_11 (x4 : Value) (Q : PQ) (w : World) : Prop :=
 kN x4 <|
 kfld 1 x4 fun v79 =>
 kld v79 w fun v80 =>
 Q (.tuple #[v80, .bool true]) w
def f48_9 (x4 : Value) (J16 : World → Prop) (Q : PQ) (w : World) : Prop :=
 kN x4 <|
 kfld 2 x4 fun v56 =>
 kld v56 w fun v57 =>
 klen v57 fun v58 =>
 kint .i64 .gtr v58 (.int .i64 0) fun v60 =>
 kB v60 fun b81 => kIf b81
 (f48_10 x4 J16 Q w)
 (f48_11 x4 Q w)
def f48_8 (x4 : Value) (Q : PQ) (w : World) : Prop :=
 kcall Tryz.prog 93 #[x4, .int .i64 0, .int .i64 0] w fun v54 w55 =>
 kL fun (I : World → Prop) (μ : World → Nat) => I w55 ∧ ∀ (w1 : World), I w1 →
 f48_9 x4 (fun  w2 => I w2 ∧ μ w2 < μ w1) Q w1
def f48_4 (x38 x0 x4 x36 x37 : Value) (J8 : Value → World → Prop) (Q : PQ) (w : World) : Prop :=
 kint .i64 .lss x38 x37 fun v21 =>
 kB v21 fun b82 => kIf b82
 (f48_5 x0 x4 x36 x37 x38 J8 Q w)
 (f48_8 x4 Q w)
def f48_3 (x0 x4 : Value) (Q : PQ) (w : World) : Prop :=
 klen x0 fun v19 =>
 kL fun (I : Value → World → Prop) (μ : Value → World → Nat) => I (.int .i64 0) w ∧ ∀ (x38 : Value) (w1 : World), I x38 w1 →
 f48_4 x38 x0 x4 x0 v19 (fun y38 w2 => I y38 w2 ∧ μ y38 w2 < μ x38 w1) Q w1
def f48_0 (x26 x0 x4 x25 : Value) (J3 : Value → World → Prop) (Q : PQ) (w : World) : Prop :=
 kint .i64 .lss x26 x25 fun v13 =>
 kB v13 fun b83 => kIf b83
 (f48_1 x0 x4 x25 x26 J3 Q w)
 (f48_3 x0 x4 Q w)
def f48 (x0 : Value) (Q : PQ) (w : World) : Prop :=
 klen x0 fun v1 =>
 kint .i64 .add v1 (.int .i64 1) fun v3 =>
 kmk (.int .i64 0) 8 3 v3 v3 w fun v4 w5 =>
 kbld [.slice none 0 0, .slice none 0 0, .slice none 0 0] [(0, 1, x0), (1, 1, v4)] fun v6 =>
 knew (Value.cells v6) 202 w5 fun v7 w8 =>
 kN v7 <|
 kfld 1 v7 fun v9 =>
 kld v9 w8 fun v10 =>
 klen v10 fun v11 =>
 kL fun (I : Value → World → Prop) (μ : Value → World → Nat) => I (.int .i64 0) w8 ∧ ∀ (x26 : Value) (w1 : World), I x26 w1 →
 f48_0 x26 x0 v7 v11 (fun y26 w2 => I y26 w2 ∧ μ y26 w2 < μ x26 w1) Q w1
theorem f48_ok {x0 : Value} {Q : PQ} {w : World} (h : f48 x0 Q w) : Meets Tryz.prog 48 #[x0] w Q :=
 sound' (c := Tryz.f48.body.get rfl) [(3, [26]), (8, [38]), (16, [])] Tryz.func48 rfl rfl (args := [x0]) rfl (by kernel_rfl) h
def f93_0 (x0 x1 x2 : Value) (Q : PQ) (w : World) : Prop :=
 kN x0 <|
 kfld 1 x0 fun v18 =>
 kld v18 w fun v19 =>
 kix (some (.slice 3)) (some 1) v19 x1 fun v20 =>
 kld v20 w fun v21 =>
 kint .i64 .eql v21 x2 fun v22 =>
 Q v22 w
def f93 (x0 x1 x2 : Value) (Q : PQ) (w : World) : Prop :=
 kN x0 <|
 kfld 1 x0 fun v1 =>
 kld v1 w fun v2 =>
 kix (some (.slice 3)) (some 1) v2 x1 fun v3 =>
 kld v3 w fun v4 =>
 kint .i64 .eql v4 (.int .i64 (-1)) fun v5 =>
 kB v5 fun b23 => kIf b23
 (kN x0 <|
 kfld 1 x0 fun v6 =>
 kld v6 w fun v7 =>
 kix (some (.slice 3)) (some 1) v7 x1 fun v8 =>
 kst 1 v8 x2 w fun w9 =>
 kN x0 <|
 kfld 2 x0 fun v10 =>
 kld v10 w9 fun v11 =>
 kbldS [.int .i64 0] 1 [(0, 1, x1)] 3 w9 fun v12 w13 =>
 ksem Tryz.prog (Builtin.append_ #[57, 57] 0 #[v11, v12]) w13 fun v14 w15 =>
 kN x0 <|
 kfld 2 x0 fun v16 =>
 kst 1 v16 v14 w15 fun w17 =>
 f93_0 x0 x1 x2 Q w17)
 (f93_0 x0 x1 x2 Q w)
theorem f93_ok {x0 x1 x2 : Value} {Q : PQ} {w : World} (h : f93 x0 x1 x2 Q w) : Meets Tryz.prog 93 #[x0, x1, x2] w Q :=
 sound' (c := Tryz.f93.body.get rfl) [] Tryz.func93 rfl rfl (args := [x0, x1, x2]) rfl (by kernel_rfl) h
def f94_4 (x0 x1 x7 x8 x10 : Value) (Q : PQ) (w : World) : Prop :=
 kun .not (some .bool) x10 fun v41 =>
 kB v41 fun b42 => kIf (!b42)
 (kint .i64 .add x1 (.int .i64 1) fun v43 =>
 kint .i64 .add x8 x7 fun v44 =>
 kcall Tryz.prog 93 #[x0, v43, v44] w fun v45 w46 =>
 Q v45 w46)
 (Q (.bool true) w)
def f94_3 (x0 x1 x7 x8 x10 x64 : Value) (Q : PQ) (w : World) : Prop :=
 kB x64 fun b47 => kIf b47
 (Q (.bool false) w)
 (f94_4 x0 x1 x7 x8 x10 Q w)
def f94_2 (x0 x1 x5 x7 x8 : Value) (Q : PQ) (w : World) : Prop :=
 kfld 0 x5 fun v28 =>
 kld v28 w fun v29 =>
 kcall Tryz.prog 79 #[v29] w fun v30 w31 =>
 kext v30 0 fun v32 =>
 kext v30 1 fun v33 =>
 kB v32 fun b34 => kIf b34
 (kfld 1 x5 fun v35 =>
 kld v35 w31 fun v36 =>
 kint .i64 .add x8 x7 fun v37 =>
 kcall Tryz.prog 93 #[x0, v36, v37] w31 fun v38 w39 =>
 kun .not (some .bool) v38 fun v40 =>
 f94_3 x0 x1 x7 x8 v33 v40 Q w39)
 (f94_3 x0 x1 x7 x8 v33 (.bool false) Q w31)
def f94_1 (x0 x1 x5 x7 x8 x47 : Value) (Q : PQ) (w : World) : Prop :=
 kB x47 fun b48 => kIf b48
 (Q (.bool false) w)
 (f94_2 x0 x1 x5 x7 x8 Q w)
def f94_0 (x0 x1 : Value) (Q : PQ) (w : World) : Prop :=
 kN x0 <|
 kfld 0 x0 fun v6 =>
 kld v6 w fun v7 =>
 kix (some (.slice 67)) (some 3) v7 x1 fun v8 =>
 kldN 3 v8 w fun v9 =>
 knew #[.int .i64 0, .int .i64 0, .int .i64 0] 67 w fun v10 w11 =>
 kst 3 v10 v9 w11 fun w12 =>
 kfld 0 v10 fun v13 =>
 kld v13 w12 fun v14 =>
 kcall Tryz.prog 43 #[v14] w12 fun v15 w16 =>
 kext v15 0 fun v17 =>
 kext v15 1 fun v18 =>
 kN x0 <|
 kfld 1 x0 fun v19 =>
 kld v19 w16 fun v20 =>
 kix (some (.slice 3)) (some 1) v20 x1 fun v21 =>
 kld v21 w16 fun v22 =>
 kint .i64 .sub v22 v17 fun v23 =>
 kint .i64 .lss v23 (.int .i64 0) fun v24 =>
 kB v24 fun b25 => kIf (!b25)
 (kint .i64 .add v23 v18 fun v26 =>
 kint .i64 .gtr v26 (.int .i64 16) fun v27 =>
 f94_1 x0 x1 v10 v18 v23 v27 Q w16)
 (f94_1 x0 x1 v10 v18 v23 (.bool true) Q w16)
def f94 (x0 x1 : Value) (Q : PQ) (w : World) : Prop :=
 kN x0 <|
 kfld 0 x0 fun v1 =>
 kld v1 w fun v2 =>
 klen v2 fun v3 =>
 kint .i64 .eql x1 v3 fun v5 =>
 kB v5 fun b49 => kIf b49
 (Q (.bool true) w)
 (f94_0 x0 x1 Q w)
theorem f94_ok {x0 x1 : Value} {Q : PQ} {w : World} (h : f94 x0 x1 Q w) : Meets Tryz.prog 94 #[x0, x1] w Q :=
 sound' (c := Tryz.f94.body.get rfl) [] Tryz.func94 rfl rfl (args := [x0, x1]) rfl (by kernel_rfl) h
end
section
attribute [local irreducible] kO kB kStr kInt kN kG kIf kfld kld kldN kst knew kmap kbld kbldS kext kcnv klenStr klen kcap kprt kprtN kbool kint kstr keq kun ksl kix kiv kta kmk kmm ksem ksemU kextf kcallV kcallM kcall kL
theorem jumpsE {w : World} (hr : RowsAt w) (op : Int) : Meets Tryz.prog 79 #[.int .i64 op] w fun v w' => v = .tuple #[.bool (jumpsB op), .bool (onB op)] ∧ Same w w' := by
 unfold jumpsB onB
 refine f79_ok ?_
 unfold f79
 refine kcall_of (codeAny hr op) ?_
 rintro v w2 ⟨rfl, h2⟩
 unfold rowAny
 generalize rowF op = r
 refine kext_at rfl ?_
 refine kext_at rfl ?_
 refine knew_of fun w6 h6 hs6 hb6 => ?_
 refine kst_of (vs := rowC r) hb6 rfl rfl rfl (by simp) (by simp [rowC]) fun w7 h7 hs7 hb7 => ?_
 have m7 : Same w w7 := h2.trans (Mod.after h6 h7 (fun b hb => by omega))
 refine eql_at ?_
 refine kB_at ?_
 refine kIf_dec (fun h => ?_) (fun h35 => ?_)
 ·unfold f79_0
  exact ⟨by rw [decide_eq_false (show ¬ (op = 20 ∨ op = 21) by omega), decide_eq_false (by omega)], m7⟩
 unfold f79_1
 refine eql_at ?_
 refine kB_at ?_
 refine kIf_dec (fun h => ?_) (fun h20 => ?_)
 ·unfold f79_2
  exact ⟨by rw [decide_eq_true (show op = 20 ∨ op = 21 by omega), decide_eq_false (by omega)], m7⟩
 unfold f79_3
 have e : decide ((0 ≤ op ∧ op < 36) ∧ op ≠ 20 ∧ op ≠ 35) = decide (0 ≤ op ∧ op < 36) := by
  by_cases hh : 0 ≤ op ∧ op < 36
  ·rw [decide_eq_true hh, decide_eq_true ⟨hh, h20, h35⟩]
  ·rw [decide_eq_false hh, decide_eq_false (fun hk => hh hk.1)]
 refine eql_at ?_
 refine kB_at ?_
 refine kIf_dec (fun h => ?_) (fun h21 => ?_)
 ·unfold f79_4 f79_5 f79_6
  exact ⟨by rw [decide_eq_true (show op = 20 ∨ op = 21 by omega), e], m7⟩
 ·unfold f79_5 f79_6
  exact ⟨by rw [decide_eq_false (show ¬ (op = 20 ∨ op = 21) by omega), e], m7⟩
theorem isPlace_spec (a n : Int) (w : World) : Meets Tryz.prog 92 #[.int .i64 a, .int .i64 n] w fun v w' => v = .bool (decide (0 ≤ a ∧ a ≤ n)) ∧ w' = w := by
 refine f92_ok ?_
 unfold f92
 refine geq_at ?_
 refine kB_at ?_
 refine kIf_dec (fun h => ?_) (fun h => ⟨by rw [decide_eq_false (by omega)], rfl⟩)
 refine leq_at ?_
 refine ⟨?_, rfl⟩
 by_cases h2 : a ≤ n
 ·rw [decide_eq_true h2, decide_eq_true ⟨h, h2⟩]
 ·rw [decide_eq_false h2, decide_eq_false (fun k => h2 k.2)]
theorem args_spec {w : World} (hr : RowsAt w) (op : Int) : Meets Tryz.prog 90 #[.int .i64 op] w fun v w' => v = .int .i64 (rowF op).2.1 ∧ Same w w' := by
 refine f90_ok ?_
 unfold f90
 refine kcall_of (codeAny hr op) ?_
 rintro v w2 ⟨rfl, h2⟩
 unfold rowAny
 generalize rowF op = r
 refine kext_at rfl ?_
 refine kext_at rfl ?_
 refine knew_of fun w6 h6 hs6 hb6 => ?_
 refine kst_of (vs := rowC r) hb6 rfl rfl rfl (by simp) (by simp [rowC]) fun w7 h7 hs7 hb7 => ?_
 have hb7 : blk w7 w2.heap.size = some (.cells (rowC r).toArray 188) := hb7
 refine kfld_of ?_
 refine kld_at hb7 rfl ?_
 exact ⟨rfl, h2.trans (Mod.after h6 h7 (fun b hb => by omega))⟩
def placeV (p : Nat) : Value := .int .i64 (p : Int)
structure WkAt (w0 : World) (la : Option Addr) (lc : Nat) (l : List IN) (b : Nat) (s : Wk) (w : World) : Prop where
 ex : ∃ dv tv, blk w b = some (.cells #[.slice la l.length lc, dv, tv] 202) ∧ Own w dv 1 (s.D.map nV) ∧ Own w tv 1 (s.todo.map placeV) ∧ (∀ k, vblk dv k → w0.heap.size ≤ k ∧ k ≠ b ∧ ¬ vblk tv k) ∧ ∀ k, vblk tv k → w0.heap.size ≤ k ∧ k ≠ b
 lo : w0.heap.size ≤ b
 same : Same w0 w
theorem WkAt.loc {w0 : World} {la : Option Addr} {lc : Nat} {l : List IN} {b : Nat} {s : Wk} {w w' : World} (h : WkAt w0 la lc l b s w) (m : Same w w') : WkAt w0 la lc l b s w' := by
 obtain ⟨dv, tv, h1, h2, h3, h4⟩ := h.ex
 exact ⟨⟨dv, tv, m.get h1 (fun h => h), h2.same m, h3.same m, h4⟩, h.lo, h.same.trans m⟩
theorem dget {s : Wk} {p : Nat} (h : p < s.D.length) : s.D[p] = s.at' p := by
 unfold Wk.at'
 rw [List.getD_eq_getElem?_getD, List.getElem?_eq_getElem h]; rfl
theorem apNumC : appT Tryz.prog 57 1 8 = true := by kernel_rfl
theorem slNumC_is : ∃ e, Tryz.prog.underlying 57 = some (.slice e) := slT_of (by kernel_rfl)
section
variable {w0 : World} {la : Option Addr} {lc : Nat} {l : List IN} {b : Nat} {s : Wk} {w : World}
theorem come_spec (h : WkAt w0 la lc l b s w) (hD : s.D.length = l.length + 1) (hT : s.todo.length ≤ 1000000) {p : Nat} (hp : p ≤ l.length) (d : Int) :
  Meets Tryz.prog 93 #[.pointer (some ⟨b, 0, none⟩), .int .i64 p, .int .i64 d] w fun v w' => v = .bool (comeF s p d).2 ∧ WkAt w0 la lc l b (comeF s p d).1 w' := by
 obtain ⟨dv, tv, hb, hOd, hOt, hd, ht⟩ := id h.ex
 obtain ⟨bd, nd, cd, arr, ty, rfl, hbd, e1, e2, e3, e4, e5⟩ := hOd.view (by intro e; have := congrArg List.length e; rw [List.length_map] at this; simp at this; rw [this] at hD; simp at hD)
 have hnd : nd = s.D.length := by rw [List.length_map] at e1; omega
 subst hnd
 have hpl : p < s.D.length := by omega
 have hsd : SlIs w (some ⟨bd, 0, none⟩) s.D.length 1 (s.D.map nV) := by
  obtain ⟨a, n, c, e, hs, _⟩ := hOd.is
  cases e; exact hs
 have hvd : vblk (.slice (some ⟨bd, 0, none⟩) s.D.length cd) bd := ⟨0, _, _, rfl⟩
 have tail : ∀ (z : Wk) (w2 : World), z.at' p = (if s.at' p = -1 then d else s.at' p) → z.D.length = s.D.length → WkAt w0 la lc l b z w2 → f93_0 (.pointer (some ⟨b, 0, none⟩)) (.int .i64 p) (.int .i64 d) (fun v w' => v = .bool (decide ((if s.at' p = -1 then d else s.at' p) = d)) ∧ WkAt w0 la lc l b z w') w2 := by
  intro z w2 hz hzl hk
  obtain ⟨dv2, tv2, hb2, hO2, _⟩ := id hk.ex
  obtain ⟨a2, n2, c2, rfl, hs2, hn2⟩ := hO2.is
  obtain rfl : n2 = z.D.length := by have := hn2 rfl; rw [List.length_map] at this; exact this
  unfold f93_0
  refine kN_at ?_
  refine kfld_of ?_
  refine kld_at hb2 rfl ?_
  refine kixld_of (F := nV) hs2 (show p < z.D.length by omega) rfl ?_
  rw [dget (by omega), hz]
  unfold nV
  refine eql_at ?_
  exact ⟨rfl, hk⟩
 unfold comeF
 refine f93_ok ?_
 unfold f93
 refine kN_at ?_
 refine kfld_of ?_
 refine kld_at hb rfl ?_
 refine kixld_of (F := nV) hsd hpl rfl ?_
 rw [dget hpl]
 unfold nV
 refine eql_at ?_
 refine kB_at ?_
 refine kIf_dec (fun hu => ?_) (fun hu => ?_)
 ·refine kN_at ?_
  refine kfld_of ?_
  refine kld_at hb rfl ?_
  rw [kix_slice]
  refine kG_of (by omega) ?_
  rw [add_mk]
  refine kst_of (o := 0 + p * 1) (vs := [.int .i64 d]) hbd rfl rfl rfl (by simp; omega) (by simp) fun w9 h9 hs9 hb9 => ?_
  have hne : b ≠ bd := fun e => (hd bd hvd).2.1 e.symm
  have hb9' := h9.get hb hne
  rw [Nat.zero_add, Nat.mul_one] at hb9
  have hO9 := hOd.set1 hbd hb9 (by rw [List.length_map]; exact hpl)
  have hT9 := hOt.mod h9 fun k hk e => (hd bd hvd).2.2 (e ▸ hk)
  refine kN_at ?_
  refine kfld_of ?_
  refine kld_of (v := tv) hb9' rfl ?_
  refine kbldS_of (cs := [.int .i64 p]) rfl fun w13 h13 hs13 hb13 => ?_
  refine ksem_append apNumC (by omega) (hT9.same h13) (Src.ofSlIs (hk := slNumC_is.choose_spec) 1 (SlIs.blk hb13 rfl) rfl) (by rw [List.length_map]; show _ + 1 ≤ _; omega) (by rw [List.length_map]; simp; omega) ?_
  intro v' w15 hO15 m15 hf15
  have ht' : ∀ k, vblk v' k → w0.heap.size ≤ k ∧ k ≠ b ∧ k ≠ bd := fun k hk => by
   rcases hf15 k hk with e | e
   ·exact ⟨(ht k e).1, (ht k e).2, fun e2 => (hd bd hvd).2.2 (e2 ▸ e)⟩
   ·have h1 := lt_of_blk (h13.get hb9' (fun h => h))
    have h2 := lt_of_blk (h13.get hb9 (fun h => h))
    have h3 := (h.same.trans' (h9.mono fun k _ e => .inr (by have := (hd bd hvd).1; omega))).size
    have h4 := h13.size
    exact ⟨by omega, by omega, by omega⟩
  have hb15 := m15.get (h13.get hb9' (fun h => h)) (fun hk => (ht b hk).2 rfl)
  have hbd15 : Own w15 (.slice (some ⟨bd, 0, none⟩) s.D.length cd) 1 ((s.D.map nV).set p (.int .i64 d)) := (hO9.same h13).mod m15 fun k hk e => (hd k hk).2.2 e
  obtain ⟨a', n', c', rfl, _, _⟩ := hO15.is
  refine kN_at ?_
  refine kfld_of ?_
  refine kst1_of hb15 rfl rfl (by show 2 < 3; omega) fun w17 h17 hs17 hb17 => ?_
  have hb17 : blk w17 b = some (.cells #[.slice la l.length lc, .slice (some ⟨bd, 0, none⟩) s.D.length cd, .slice a' n' c'] 202) := hb17
  have hk : WkAt w0 la lc l b ⟨s.D.set p d, s.todo ++ [p]⟩ w17 := by
   refine ⟨⟨_, _, hb17, ?_, ?_, fun k hk => ⟨(hd k hk).1, (hd k hk).2.1, fun hv => ?_⟩, fun k hk => ⟨(ht' k hk).1, (ht' k hk).2.1⟩⟩, h.lo, ?_⟩
   ·have := hbd15.mod h17 fun k hk e => (hd k hk).2.1 e
    show Own w17 _ 1 ((s.D.set p d).map nV)
    rw [List.map_set]; exact this
   ·show Own w17 _ 1 ((s.todo ++ [p]).map placeV)
    rw [List.map_append]
    exact hO15.mod h17 fun k hk e => (ht' k hk).2.1 e
   ·obtain ⟨_, _, _, e⟩ := hk
    cases e
    exact (ht' bd hv).2.2 rfl
   ·have hlb := h.lo
    exact ((h.same.trans' (h9.mono fun k _ e => .inr (by have := (hd bd hvd).1; omega))).trans h13).trans' ((m15.mono fun k _ e => .inr (ht k e).1).trans (h17.mono fun k _ e => .inr (by omega)))
  have := tail ⟨s.D.set p d, s.todo ++ [p]⟩ w17 (by rw [at_set _ _ _ _ _ hpl, if_pos rfl, if_pos hu]) (by show (s.D.set p d).length = _; rw [List.length_set]) hk
  rw [if_pos hu] at this ⊢
  rw [decide_eq_true rfl] at this
  exact this
 ·have := tail s w (by rw [if_neg hu]) rfl h
  rw [if_neg hu] at this ⊢
  exact this
theorem comeF_len {l : List IN} (hD : s.D.length = l.length + 1) (p : Nat) (d : Int) : (comeF s p d).1.D.length = l.length + 1 ∧ (comeF s p d).1.todo.length ≤ s.todo.length + 1 := by
 unfold comeF
 split
 ·exact ⟨by show (s.D.set p d).length = _; rw [List.length_set]; exact hD, by show (s.todo ++ [p]).length ≤ _; rw [List.length_append]; simp⟩
 ·exact ⟨hD, Nat.le_succ _⟩
theorem stepW_spec (hr : RowsAt w0) (hs : SlIs w0 la l.length 3 (l.flatMap IN.cells)) (hok : ∀ x ∈ l, okOp l.length x) (hl : l.length ≤ 1000) (h : WkAt w0 la lc l b s w) (hD : s.D.length = l.length + 1) (hT : s.todo.length ≤ 100000) {p : Nat} (hp : p ≤ l.length) (h0 : 0 ≤ s.at' p) (h1 : s.at' p ≤ 1000) :
  Meets Tryz.prog 94 #[.pointer (some ⟨b, 0, none⟩), .int .i64 p] w fun v w' => v = .bool (stepW l s p).2 ∧ WkAt w0 la lc l b (stepW l s p).1 w' := by
 obtain ⟨dv, tv, hb, hOd, hOt, hd, ht⟩ := id h.ex
 unfold stepW
 refine f94_ok ?_
 unfold f94
 refine kN_at ?_
 refine kfld_of ?_
 refine kld_at hb rfl ?_
 refine klen_at ?_
 refine eql_at ?_
 refine kB_at ?_
 refine kIf_dec (fun he => ?_) (fun he => ?_)
 ·rw [List.getElem?_eq_none (show l.length ≤ p by omega)]
  exact ⟨rfl, h⟩
 have hpl : p < l.length := by omega
 have hx : l[p]? = some l[p] := List.getElem?_eq_getElem hpl
 have hmem : l[p] ∈ l := List.getElem_mem hpl
 rw [hx]
 show f94_0 _ _ (fun v w' => v = .bool (goW l s p l[p]).2 ∧ WkAt w0 la lc l b (goW l s p l[p]).1 w') w
 have hcell : SlIs w la l.length 3 (l.flatMap IN.cells) := hs.same h.same
 unfold f94_0
 refine kN_at ?_
 refine kfld_of ?_
 refine kld_at hb rfl ?_
 refine kixldN_of (F := IN.cells) (sz := 3) (fun _ => rfl) (by omega) hcell hpl rfl ?_
 generalize l[p] = x at *
 obtain ⟨hop, hj⟩ := hok x hmem
 refine knew_of fun w11 h11 hs11 hb11 => ?_
 refine kst_of (vs := x.cells) hb11 rfl rfl rfl (by simp) (by simp [IN.cells]) fun w12 h12 hs12 hb12 => ?_
 have hb12 : blk w12 w.heap.size = some (.cells x.cells.toArray 67) := hb12
 have m12 : Same w w12 := h11.trans' (h12.mono fun k _ e => .inr (by omega))
 refine kfld_of ?_
 refine kld_at (v := .int .i64 x.op) hb12 rfl ?_
 refine kcall_of (movesA (hr.same (h.same.trans m12)) x.op) ?_
 rintro v w16 ⟨rfl, h16⟩
 have m16 := m12.trans h16
 have hk16 := h.loc m16
 have hb16 := h16.get hb12 (fun h => h)
 obtain ⟨dv6, tv6, hbk, hO6, _⟩ := id hk16.ex
 obtain ⟨a6, n6, c6, rfl, hs6, hn6⟩ := hO6.is
 obtain rfl : n6 = s.D.length := by have := hn6 rfl; rw [List.length_map] at this; exact this
 refine kext_at rfl ?_
 refine kext_at rfl ?_
 refine kN_at ?_
 refine kfld_of ?_
 refine kld_at hbk rfl ?_
 refine kixld_of (F := nV) hs6 (show p < s.D.length by omega) rfl ?_
 rw [dget (by omega)]
 unfold nV
 have hrb := rowF_bnd x.op
 refine sub_at (by omega) (by omega) ?_
 show kint .i64 .lss (.int .i64 (s.at' p - takI x.op)) (.int .i64 0) _
 have et : takI x.op = (rowF x.op).2.2.1 := rfl
 have el : layI x.op = (rowF x.op).2.2.2 := rfl
 have hti : 0 ≤ takI x.op ∧ takI x.op ≤ 2 := by rw [et]; omega
 have hli : 0 ≤ layI x.op ∧ layI x.op ≤ 3 := by rw [el]; omega
 rw [← el]
 refine lss_at ?_
 refine kB_at ?_
 have fin : ∀ bb : Bool, bb = decide (s.at' p - takI x.op < 0 ∨ 16 < s.at' p - takI x.op + layI x.op) → f94_1 (.pointer (some ⟨b, 0, none⟩)) (.int .i64 p) (.pointer (some ⟨w.heap.size, 0, none⟩)) (.int .i64 (layI x.op)) (.int .i64 (s.at' p - takI x.op)) (.bool bb) (fun v w' => v = .bool (goW l s p x).2 ∧ WkAt w0 la lc l b (goW l s p x).1 w') w16 := by
  intro bb hbb
  unfold goW
  unfold f94_1
  refine kB_at ?_
  by_cases hbad : s.at' p - takI x.op < 0 ∨ 16 < s.at' p - takI x.op + layI x.op
  ·rw [hbb, decide_eq_true hbad]
   refine kIf_T rfl ?_
   rw [if_pos hbad]
   exact ⟨rfl, hk16⟩
  ·rw [hbb, decide_eq_false hbad]
   refine kIf_F rfl ?_
   rw [if_neg hbad]
   unfold f94_2
   refine kfld_of ?_
   refine kld_at (v := .int .i64 x.op) hb16 rfl ?_
   refine kcall_of (jumpsE (hr.same (h.same.trans m16)) x.op) ?_
   rintro v w31 ⟨rfl, h31⟩
   have hk31 := hk16.loc h31
   refine kext_at rfl ?_
   refine kext_at rfl ?_
   refine kB_at ?_
   have last : ∀ (z : Wk) (w2 : World), WkAt w0 la lc l b z w2 → z.D.length = l.length + 1 → z.todo.length ≤ 1000000 → f94_3 (.pointer (some ⟨b, 0, none⟩)) (.int .i64 p) (.int .i64 (layI x.op)) (.int .i64 (s.at' p - takI x.op)) (.bool (onB x.op)) (.bool false) (fun v w' => v = .bool (restW p x.op (s.at' p - takI x.op + layI x.op) (z, true)).2 ∧ WkAt w0 la lc l b (restW p x.op (s.at' p - takI x.op + layI x.op) (z, true)).1 w') w2 := by
    intro z w2 hz hzD hzT
    unfold f94_3
    refine kB_at ?_
    refine kIf_F rfl ?_
    unfold f94_4
    refine not_at ?_
    refine kB_at ?_
    cases hon : onB x.op with
    | false =>
     refine kIf_F rfl ?_
     have er : restW p x.op (s.at' p - takI x.op + layI x.op) (z, true) = (z, true) := by unfold restW; rw [hon]; rfl
     rw [er]
     exact ⟨rfl, hz⟩
    | true =>
     refine kIf_T rfl ?_
     refine add_at (by omega) (by omega) ?_
     refine add_at (by omega) (by omega) ?_
     rw [cast_succ]
     refine kcall_of (come_spec hz hzD hzT (p := p + 1) (by omega) _) ?_
     rintro v w46 ⟨rfl, hz2⟩
     have er : restW p x.op (s.at' p - takI x.op + layI x.op) (z, true) = comeF z (p + 1) (s.at' p - takI x.op + layI x.op) := by unfold restW; rw [hon]; rfl
     rw [er]
     exact ⟨rfl, hz2⟩
   cases hjm : jumpsB x.op with
   | false =>
    refine kIf_F rfl ?_
    exact last s w31 hk31 hD (by omega)
   | true =>
    refine kIf_T rfl ?_
    obtain ⟨j0, j1⟩ := hj hjm
    refine kfld_of ?_
    refine kld_at (v := .int .i64 x.a) (h31.get hb16 (fun h => h)) rfl ?_
    refine add_at (by omega) (by omega) ?_
    have ea : x.a = ((x.a.toNat : Nat) : Int) := by omega
    rw [ea]
    refine kcall_of (come_spec hk31 hD (by omega) (p := x.a.toNat) (by omega) _) ?_
    rintro v w39 ⟨rfl, hz⟩
    rw [← ea]
    refine not_at ?_
    obtain ⟨l1, l2⟩ := comeF_len hD x.a.toNat (s.at' p - takI x.op + layI x.op)
    rw [if_pos rfl]
    generalize comeF s x.a.toNat (s.at' p - takI x.op + layI x.op) = r at *
    obtain ⟨z, bz⟩ := r
    cases bz with
    | false =>
     unfold f94_3
     refine kB_at ?_
     refine kIf_T rfl ?_
     exact ⟨rfl, hz⟩
    | true => exact last z w39 hz l1 (by show z.todo.length ≤ _; have : z.todo.length ≤ s.todo.length + 1 := l2; omega)
 refine kIf_ndec (fun hn => ?_) (fun hn => fin true (by rw [decide_eq_true (.inl hn)]))
 refine add_at (by omega) (by omega) ?_
 refine gtr_at ?_
 refine fin _ ?_
 show decide (16 < s.at' p - takI x.op + layI x.op) = _
 by_cases hh : 16 < s.at' p - takI x.op + layI x.op
 ·rw [decide_eq_true hh, decide_eq_true (.inr hh)]
 ·rw [decide_eq_false hh, decide_eq_false (fun k => k.elim hn hh)]
end
end
section
attribute [local irreducible] kO kB kStr kInt kN kG kIf kfld kld kldN kst knew kmap kbld kbldS kext kcnv klenStr klen kcap kprt kprtN kbool kint kstr keq kun ksl kix kiv kta kmk kmm ksem ksemU kextf kcallV kcallM kcall kL
theorem zr_one (n : Nat) : zrow [Value.int .i64 0] n = List.replicate n (.int .i64 0) := by
 induction n with
 | zero => rfl
 | succ n ih =>
  rw [List.replicate_succ, ← ih]; rfl
section
variable {w : World} {la : Option Addr} {lc : Nat} {l : List IN}
theorem depths_spec (hr : RowsAt w) (hs : SlIs w la l.length 3 (l.flatMap IN.cells)) (hl : l.length ≤ 1000) :
  Meets Tryz.prog 48 #[.slice la l.length lc] w fun v w' => (∃ (x : Value) (b : Bool), v = .tuple #[x, .bool b] ∧ (b = true ↔ depthsOk l)) ∧ Same w w' := by
 refine f48_ok ?_
 unfold f48
 refine klen_at ?_
 refine add_at (by omega) (by omega) ?_
 rw [cast_succ]
 refine kmk_of (by omega) (by omega) fun w5 h5 hs5 hb5 => ?_
 have hb5 : blk w5 w.heap.size = some (.cells (zrow [Value.int .i64 0] (l.length + 1)).toArray 3) := hb5
 rw [zr_one] at hb5
 refine kbld_of (cs := [.slice la l.length lc, .slice (some ⟨w.heap.size, 0, none⟩) (l.length + 1) (l.length + 1), .slice none 0 0]) rfl ?_
 refine knew_of fun w8 h8 hs8 hb8 => ?_
 have hb8 : blk w8 w5.heap.size = some (.cells #[.slice la l.length lc, .slice (some ⟨w.heap.size, 0, none⟩) (l.length + 1) (l.length + 1), .slice none 0 0] 202) := hb8
 have hz5 := h5.size
 have hO0 : Own w8 (.slice (some ⟨w.heap.size, 0, none⟩) (l.length + 1) (l.length + 1)) 1 ((List.replicate (l.length + 1) (0 : Int)).map nV) := by
  have := Own.blk (h8.get hb5 (fun h => h)) (n := l.length + 1) (sz := 1) (by simp) (by simp [maxLen]; omega)
  rw [List.map_replicate]
  exact this
 have hk8 : WkAt w la lc l w5.heap.size ⟨List.replicate (l.length + 1) 0, []⟩ w8 := ⟨⟨_, _, hb8, hO0, Own.nil _ _, fun k hk => by
  obtain ⟨_, _, _, e⟩ := hk
  cases e
  exact ⟨Nat.le_refl _, by omega, nvn _⟩, fun k hk => absurd hk (nvn k)⟩, by omega, h5.trans h8⟩
 refine kN_at ?_
 refine kfld_of ?_
 refine kld_at hb8 rfl ?_
 refine klen_at ?_
 clear hO0 hb8 hb5
 refine kL1_of (l.length + 1) (fun i x wr => x = .int .i64 i ∧ ∃ D : List Int, D.length = l.length + 1 ∧ (∀ j, j < i → D[j]? = some (-1)) ∧ WkAt w la lc l w5.heap.size ⟨D, []⟩ wr) ⟨lI1_0 ⟨rfl, _, by rw [List.length_replicate], fun j hj => by omega, hk8⟩, fun x wr hx => ?_⟩
 obtain ⟨i, hi, ⟨rfl, D, hDl, hDj, hk⟩, hJ⟩ := lI1_step hx
 unfold f48_0
 refine lss_at ?_
 refine kB_at ?_
 refine kIf_dec (fun hlt => ?_) (fun hge => ?_)
 ·have hlt : i < l.length + 1 := by omega
  obtain ⟨dv, tv, hb, hOd, hOt, hd, ht⟩ := id hk.ex
  obtain ⟨bd, nd, cd, arr, ty, rfl, hbd, e1, e2, e3, e4, e5⟩ := hOd.view (by intro e; have := congrArg List.length e; rw [List.length_map] at this; simp at this; rw [this] at hDl; simp at hDl)
  have hnd : nd = l.length + 1 := by rw [List.length_map] at e1; have e1 : D.length = nd * 1 := e1; omega
  subst hnd
  have hvd : vblk (.slice (some ⟨bd, 0, none⟩) (l.length + 1) cd) bd := ⟨0, _, _, rfl⟩
  unfold f48_1
  refine kN_at ?_
  refine kfld_of ?_
  refine kld_at hb rfl ?_
  rw [kix_slice]
  refine kG_of (by omega) ?_
  rw [add_mk]
  refine kst_of (o := 0 + i * 1) (vs := [.int .i64 (-1)]) hbd rfl rfl rfl (by simp; omega) (by simp) fun w9 h9 hs9 hb9 => ?_
  have hne : w5.heap.size ≠ bd := fun e => (hd bd hvd).2.1 e.symm
  rw [Nat.zero_add, Nat.mul_one] at hb9
  have hO9 := hOd.set1 hbd hb9 (by rw [List.length_map]; show i < D.length; omega)
  unfold f48_2
  refine add_at (by omega) (by omega) ?_
  rw [cast_succ]
  refine hJ _ _ hlt ⟨rfl, D.set i (-1), by rw [List.length_set]; exact hDl, fun j hj => ?_, ⟨⟨_, _, h9.get hb hne, ?_, hOt.mod h9 fun k hk e => (hd bd hvd).2.2 (e ▸ hk), hd, ht⟩, hk.lo, hk.same.trans' (h9.mono fun k _ e => .inr (by have := (hd bd hvd).1; omega))⟩⟩
  ·by_cases hji : j = i
   ·subst hji
    rw [List.getElem?_set, if_pos rfl, if_pos (by omega)]
   ·rw [List.getElem?_set_ne (fun e => hji e.symm)]
    exact hDj j (by omega)
  ·show Own w9 _ 1 ((D.set i (-1)).map nV)
   rw [List.map_set]; exact hO9
 ·have hi' : i = l.length + 1 := by omega
  subst hi'
  have eD : D = List.replicate (l.length + 1) (-1) := by
   apply List.ext_getElem?
   intro j
   by_cases hj : j < l.length + 1
   ·rw [hDj j hj, List.getElem?_replicate, if_pos hj]
   ·rw [List.getElem?_eq_none (by omega), List.getElem?_eq_none (by rw [List.length_replicate]; omega)]
  subst eD
  clear hJ hDj hDl hx hk8
  unfold f48_3
  refine klen_at ?_
  refine kL1_of l.length (fun i x wr => x = .int .i64 i ∧ (∀ j (hj : j < l.length), j < i → okOp l.length l[j]) ∧ WkAt w la lc l w5.heap.size ⟨List.replicate (l.length + 1) (-1), []⟩ wr) ⟨lI1_0 ⟨rfl, fun j _ hj => by omega, hk⟩, fun x wr hx => ?_⟩
  obtain ⟨i, hi, ⟨rfl, hoki, hk⟩, hJ⟩ := lI1_step hx
  have hcell : SlIs wr la l.length 3 (l.flatMap IN.cells) := hs.same hk.same
  unfold f48_4
  refine lss_at ?_
  refine kB_at ?_
  refine kIf_dec (fun hlt => ?_) (fun hge => ?_)
  ·have hlt : i < l.length := by omega
   unfold f48_5
   refine kixldN_of (F := IN.cells) (sz := 3) (fun _ => rfl) (by omega) hcell hlt rfl ?_
   have hmem : l[i] ∈ l := List.getElem_mem hlt
   have hnext : okOp l.length l[i] → ∀ j (hj : j < l.length), j < i + 1 → okOp l.length l[j] := fun h j hj hji => by
    by_cases e : j = i
    ·subst e; exact h
    ·exact hoki j hj (by omega)
   generalize l[i] = x at *
   refine knew_of fun w25 h25 hs25 hb25 => ?_
   refine kst_of (vs := x.cells) hb25 rfl rfl rfl (by simp) (by simp [IN.cells]) fun w26 h26 hs26 hb26 => ?_
   have hb26 : blk w26 wr.heap.size = some (.cells x.cells.toArray 67) := hb26
   have m26 : Same wr w26 := h25.trans' (h26.mono fun k _ e => .inr (by omega))
   refine kfld_of ?_
   refine kld_at (v := .int .i64 x.op) hb26 rfl ?_
   refine kcall_of (codeAny (hr.same (hk.same.trans m26)) x.op) ?_
   rintro v w30 ⟨rfl, h30⟩
   unfold rowAny
   have hb30 := h30.get hb26 (fun h => h)
   have m30 := m26.trans h30
   refine kext_at rfl ?_
   refine kext_at rfl ?_
   refine knew_of fun w34 h34 hs34 hb34 => ?_
   generalize rowF x.op = rr
   refine kst_of (vs := rowC rr) hb34 rfl rfl rfl (by simp) (by simp [rowC]) fun w35 h35 hs35 hb35 => ?_
   have m35 : Same w30 w35 := h34.trans' (h35.mono fun k _ e => .inr (by omega))
   have hb35 := m35.get hb30 (fun h => h)
   have m35' := m30.trans m35
   refine kfld_of ?_
   refine kld_at (v := .int .i64 x.op) hb35 rfl ?_
   refine kcall_of (jumpsE (hr.same (hk.same.trans m35')) x.op) ?_
   rintro v w39 ⟨rfl, h39⟩
   have m39 := m35'.trans h39
   have hb39 := h39.get hb35 (fun h => h)
   refine kext_at rfl ?_
   refine kext_at rfl ?_
   have fin : ∀ bb : Bool, (bb = false ↔ okOp l.length x) → f48_6 (.slice la l.length lc) (.pointer (some ⟨w5.heap.size, 0, none⟩)) (.slice la l.length lc) (.int .i64 l.length) (.int .i64 i) (.bool bb) (fun y38 w2 => lI l.length (inv1 fun i x wr => x = .int .i64 i ∧ (∀ j (hj : j < l.length), j < i → okOp l.length l[j]) ∧ WkAt w la lc l w5.heap.size ⟨List.replicate (l.length + 1) (-1), []⟩ wr) (y38, w2) ∧ lM l.length (inv1 fun i x wr => x = .int .i64 i ∧ (∀ j (hj : j < l.length), j < i → okOp l.length l[j]) ∧ WkAt w la lc l w5.heap.size ⟨List.replicate (l.length + 1) (-1), []⟩ wr) (y38, w2) < lM l.length (inv1 fun i x wr => x = .int .i64 i ∧ (∀ j (hj : j < l.length), j < i → okOp l.length l[j]) ∧ WkAt w la lc l w5.heap.size ⟨List.replicate (l.length + 1) (-1), []⟩ wr) (.int .i64 i, wr)) (fun v w' => (∃ (x : Value) (b : Bool), v = .tuple #[x, .bool b] ∧ (b = true ↔ depthsOk l)) ∧ Same w w') w39 := by
    intro bb hbb
    unfold f48_6
    refine kB_at ?_
    refine kIf_of (fun hb' => ?_) (fun hb' => ?_)
    ·refine ⟨⟨_, false, rfl, fun e => (by cases e), fun hd => ?_⟩, hk.same.trans m39⟩
     have := hbb.2 (hd.1 x hmem)
     rw [hb'] at this; cases this
    ·have hb' : bb = false := by simpa using hb'
     unfold f48_7
     refine add_at (by omega) (by omega) ?_
     rw [cast_succ]
     exact hJ _ _ hlt ⟨rfl, hnext (hbb.1 hb'), hk.loc m39⟩
   refine not_at ?_
   refine kB_at ?_
   refine kIf_of (fun hv => ?_) (fun hv => ?_)
   ·have hv : 0 ≤ x.op ∧ x.op < 36 := by
     by_cases hh : 0 ≤ x.op ∧ x.op < 36
     ·exact hh
     ·rw [decide_eq_false hh] at hv; cases hv
    refine kB_at ?_
    refine kIf_of (fun hjm => ?_) (fun hjm => ?_)
    ·refine kfld_of ?_
     refine kld_at (v := .int .i64 x.a) hb39 rfl ?_
     refine klen_at ?_
     refine kcall_of (isPlace_spec x.a l.length w39) ?_
     rintro v w50 ⟨rfl, rfl⟩
     refine not_at ?_
     refine fin _ ?_
     constructor
     ·intro e
      have : 0 ≤ x.a ∧ x.a ≤ (l.length : Int) := by simpa using e
      exact ⟨hv, fun _ => this⟩
     ·intro h
      have := h.2 hjm
      simpa using this
    ·exact fin false ⟨fun _ => ⟨hv, fun h => by rw [hjm] at h; cases h⟩, fun _ => rfl⟩
   ·refine fin true ⟨fun e => (by cases e), fun h => ?_⟩
    rw [decide_eq_true h.1] at hv; cases hv
  ·have hi' : i = l.length := by omega
   subst hi'
   have hok : ∀ x ∈ l, okOp l.length x := fun x hx => by
    obtain ⟨j, hj, rfl⟩ := List.mem_iff_getElem.1 hx
    exact hoki j hj hj
   clear hJ hx hoki
   unfold f48_8
   refine kcall_of (come_spec hk (by show (List.replicate _ _).length = _; rw [List.length_replicate]) (Nat.zero_le _) (p := 0) (by omega) 0) ?_
   rintro v w55 ⟨_, hk55⟩
   have e0 : comeF ⟨List.replicate (l.length + 1) (-1), []⟩ 0 0 = (startW l.length, true) := by
    unfold comeF
    rw [if_pos (by rw [List.replicate_succ]; rfl)]
    rfl
   rw [e0] at hk55
   refine kL0_of (l.length + 1) (fun i wr => ∃ s, WkAt w la lc l w5.heap.size s wr ∧ Sound l s ∧ s.meas + i = l.length + 1 ∧ (loopW l s.meas s).2 = (loopW l (l.length + 1) (startW l.length)).2) ⟨lI_0 ⟨_, hk55, startW_sound l, by rw [startW_meas], by rw [startW_meas]⟩, fun wr hx => ?_⟩
   obtain ⟨i, hi, ⟨s, hk, hS, hm, hlo⟩, hJ⟩ := lI_step hx
   obtain ⟨dv, tv, hb, hOd, hOt, hd, ht⟩ := id hk.ex
   obtain ⟨ta, tn, tc, rfl, hst, htn⟩ := hOt.is
   obtain rfl : tn = s.todo.length := by have := htn rfl; rw [List.length_map] at this; exact this
   unfold f48_9
   refine kN_at ?_
   refine kfld_of ?_
   refine kld_at hb rfl ?_
   refine klen_at ?_
   refine gtr_at ?_
   refine kB_at ?_
   refine kIf_dec (fun hgt => ?_) (fun hgt => ?_)
   ·have hpos : 0 < s.todo.length := by omega
    have hne : s.todo ≠ [] := List.length_pos_iff.1 hpos
    have hlast : s.todo.getLast? = some (s.todo[s.todo.length - 1]'(by omega)) := by rw [List.getLast?_eq_getElem?, List.getElem?_eq_getElem (by omega)]
    have hmem : s.todo[s.todo.length - 1]'(by omega) ∈ s.todo := List.getElem_mem _
    obtain ⟨p1, p2, p3⟩ := hS.todo _ hmem
    have hmeas : s.todo.length ≤ l.length + 1 := by unfold Wk.meas at hm; omega
    unfold f48_10
    refine kN_at ?_
    refine kfld_of ?_
    refine kld_at hb rfl ?_
    refine klen_at ?_
    refine sub_at (by omega) (by omega) ?_
    rw [show ((s.todo.length : Int) - 1) = ((s.todo.length - 1 : Nat) : Int) by omega]
    refine kN_at ?_
    refine kfld_of ?_
    refine kld_at hb rfl ?_
    refine kixld_of (F := placeV) hst (show s.todo.length - 1 < s.todo.length by omega) rfl ?_
    generalize hpe : s.todo[s.todo.length - 1]'(by omega) = p at *
    unfold placeV
    refine kN_at ?_
    refine kfld_of ?_
    refine kld_at hb rfl ?_
    obtain ⟨bt, nt, ct, arrt, tyt, et, hbt, f1, f2, f3, f4, f5⟩ := hOt.view (by intro e; have := congrArg List.length e; rw [List.length_map] at this; simp at this; exact hne this)
    cases et
    refine ksl_sl_hi (m := s.todo.length - 1) (by omega) ?_
    refine kN_at ?_
    refine kfld_of ?_
    refine kst1_of hb rfl rfl (by show 2 < 3; omega) fun w74 h74 hs74 hb74 => ?_
    have hb74 : blk w74 w5.heap.size = some (.cells #[.slice la l.length lc, dv, .slice (some ⟨bt, 0, none⟩) (s.todo.length - 1) tc] 202) := hb74
    have hvt : ∀ k, vblk (.slice (some ⟨bt, 0, none⟩) (s.todo.length - 1) tc) k → vblk (.slice (some ⟨bt, 0, none⟩) s.todo.length tc) k := fun k hk => by
     obtain ⟨_, _, _, e⟩ := hk
     cases e
     exact ⟨0, _, _, rfl⟩
    have hlo5 := hk.lo
    have hk74 : WkAt w la lc l w5.heap.size ⟨s.D, s.todo.dropLast⟩ w74 := by
     refine ⟨⟨_, _, hb74, hOd.mod h74 fun k hk e => (hd k hk).2.1 e, ?_, fun k hk => ⟨(hd k hk).1, (hd k hk).2.1, fun hv => (hd k hk).2.2 (hvt k hv)⟩, fun k hk => ht k (hvt k hk)⟩, hk.lo, hk.same.trans' (h74.mono fun k _ e => .inr (by omega))⟩
     have := (hOt.cutN (k := s.todo.length - 1) (by omega)).mod h74 fun k hk e => (ht k (hvt k hk)).2 e
     rw [Nat.mul_one] at this
     show Own w74 _ 1 (s.todo.dropLast.map placeV)
     rw [List.dropLast_eq_take, List.map_take]
     exact this
    refine kcall_of (stepW_spec hr hs hok hl hk74 hS.len (by show s.todo.dropLast.length ≤ _; rw [List.length_dropLast]; omega) p1 p2 (by show s.at' p ≤ _; omega)) ?_
    rintro v w76 ⟨rfl, hk76⟩
    have hm2 := popW_meas hok hS hlast
    have hmn : s.meas = (stepW l ⟨s.D, s.todo.dropLast⟩ p).1.meas + 1 := hm2.symm
    rw [hmn] at hlo
    have hun : loopW l ((stepW l ⟨s.D, s.todo.dropLast⟩ p).1.meas + 1) s = if (stepW l ⟨s.D, s.todo.dropLast⟩ p).2 = true then loopW l (stepW l ⟨s.D, s.todo.dropLast⟩ p).1.meas (stepW l ⟨s.D, s.todo.dropLast⟩ p).1 else ((stepW l ⟨s.D, s.todo.dropLast⟩ p).1, false) := by
     rw [loopW, hlast]
    rw [hun] at hlo
    refine not_at ?_
    refine kB_at ?_
    refine kIf_of (fun hb' => ?_) (fun hb' => ?_)
    ·have hb' : (stepW l ⟨s.D, s.todo.dropLast⟩ p).2 = false := by simpa using hb'
     rw [hb', if_neg (by simp)] at hlo
     exact ⟨⟨_, false, rfl, fun e => (by cases e), fun hd => by have := hd.2; rw [← hlo] at this; cases this⟩, hk76.same⟩
    ·have hb' : (stepW l ⟨s.D, s.todo.dropLast⟩ p).2 = true := by simpa using hb'
     rw [hb', if_pos rfl] at hlo
     exact hJ _ (by omega) ⟨_, hk76, popW_sound hok hS hlast hb', by omega, hlo⟩
   ·have hnil : s.todo = [] := List.length_eq_zero_iff.1 (by omega)
    unfold f48_11
    refine kN_at ?_
    refine kfld_of ?_
    refine kld_of (v := dv) hb rfl ?_
    refine ⟨⟨_, true, rfl, fun _ => ⟨hok, ?_⟩, fun _ => rfl⟩, hk.same⟩
    rw [← hlo]
    cases s.meas with
    | zero => rfl
    | succ n => rw [loopW, hnil]; rfl
end
end
end Go.Proofs.YtenokhokboicnaaGreatDoor
