/-
Lemmas for the statements of this seat: no statement of the seat is proved in this part (6 of 6); the conditions stand in each theorem.
-/
import Derived.Test.YtmidldeaapdjoaaGreatDoorWait5
import Derived.Test.YtmidldeaapdjoaaGreatDoorChecked
set_option linter.unusedSimpArgs false
set_option linter.unusedVariables false
set_option maxRecDepth 100000
namespace Go.Proofs.YtmidldeaapdjoaaGreatDoor
open Go Go.Ev
section
attribute [local irreducible] kO kB kStr kInt kN kG kIf kfld kld kldN kst knew kmap kbld kbldS kext kcnv klenStr klen kcap kprt kprtN kbool kint kstr keq kun ksl kix kiv kta kmk kmm ksem ksemU kextf kcallV kcallM kcall kL
theorem oParts {o : OC} {U : Nat → Prop} {w : World} {l : List OrdM} {gv dr : Nat} (hD : DeAt w) (h : OAt o U w l gv dr) {m : Nat} (hm : m < 2 ^ o.L.length) (frame : Int) :
  Meets Tryz.prog 126 #[.pointer (some ⟨o.bo, 0, none⟩), msk m, .int .i64 frame] w fun v w' => (∃ s, v = .tuple #[s, .nilIface] ∧ Own w' s 6 ((defsL o.L m frame).flatMap Part.cells) ∧ ∀ k, vblk s k → w.heap.size ≤ k) ∧ Same w w' := by
 have hl := h.good.len
 have h32 : m < 4294967296 := by
  have : 2 ^ o.L.length ≤ 2 ^ 32 := Nat.pow_le_pow_right (by omega) (by omega)
  omega
 obtain ⟨⟨sv, hh, hO, hv⟩, hcm, hown, hca, hgood, hrv, hfit⟩ := h
 have hin : ∀ c ∈ listF m, c < o.L.length := fun c hc => by
  have hb := (listF_mem.1 hc).2
  rcases Nat.lt_or_ge c o.L.length with h | h
  ·exact h
  ·have := Nat.testBit_lt_two_pow (Nat.lt_of_lt_of_le hm (Nat.pow_le_pow_right (by omega) h))
   rw [this] at hb; cases hb
 have hll := listF_len m
 refine f126_ok ?_
 unfold f126
 refine kcall_of (List_spec hD m h32) ?_
 rintro v w2 ⟨a, c, rfl, hs2, h2, hlo⟩
 refine klen_at ?_
 have hz2 := h2.size
 refine kL2_of (listF m).length (fun j x y wr => y = .int .i64 j ∧ Own wr x 6 ((((listF m).take j).map fun c => defP o.L c frame).flatMap Part.cells) ∧ Same w2 wr ∧ ∀ k, vblk x k → w2.heap.size ≤ k) ⟨lI2_0 ⟨rfl, Own.nil _ _, Mod.refl _ _, fun k hk => by obtain ⟨_, _, _, h⟩ := hk; cases h⟩, fun x y wr hx => ?_⟩
 obtain ⟨j, hj, ⟨rfl, hOx, hwr, hxk⟩, hJ⟩ := lI2_step hx
 unfold f126_0
 refine lss_at ?_
 refine kB_at ?_
 refine kIf_dec (fun hlt => ?_) (fun hge => ?_)
 ·have hlt : j < (listF m).length := by omega
  have hcj := hin _ (List.getElem_mem hlt)
  have htk : (listF m).take (j + 1) = (listF m).take j ++ [(listF m)[j]] := List.take_succ_eq_append_getElem hlt
  have hlj : (((listF m).take j).map fun c => defP o.L c frame).length = j := by rw [List.length_map, List.length_take]; omega
  have hfl := flat_len Part.cells 6 (fun _ => rfl) (((listF m).take j).map fun c => defP o.L c frame)
  have m2r := h2.trans hwr
  unfold f126_1
  refine kixld_of (F := natV) (l := listF m) (hs2.same hwr) hlt rfl ?_
  refine kN_at ?_
  refine kfld_of ?_
  refine kldN_at (cs := [.slice o.ca o.L.length o.cc, o.rv]) (m2r.get hh (fun h => h)) rfl (by omega) ?_
  have hsn := schemaNew_spec (cp := o.cc) hrv (hcm.same m2r) hcj (by omega) frame
  rw [scV] at hsn
  refine kcall_of hsn ?_
  rintro v w11 ⟨rfl, h11⟩
  refine kext_at rfl ?_
  refine kext_at rfl ?_
  refine knew_of fun w15 h15 hs15 hb15 => ?_
  refine kst_of (vs := (defP o.L (listF m)[j] frame).cells) hb15 rfl rfl rfl (by simp) (by simp [Part.cells]) fun w16 h16 hs16 hb16 => ?_
  have hb16 : blk w16 w11.heap.size = some (.cells (defP o.L (listF m)[j] frame).cells.toArray 47) := hb16
  have m16 : Same w11 w16 := h15.trans' (h16.mono fun k _ e => .inr (by omega))
  rw [keq_nil_nil' ifErr]
  refine kB_at ?_
  refine kIf_F rfl ?_
  unfold f126_2
  refine kldN_at (cs := (defP o.L (listF m)[j] frame).cells) hb16 rfl (by omega) ?_
  refine kbldS_of (cs := (defP o.L (listF m)[j] frame).cells) rfl fun w21 h21 hs21 hb21 => ?_
  have mr21 : Same wr w21 := (h11.trans m16).trans h21
  have h6 : ((defP o.L (listF m)[j] frame).cells.toArray.toList).length = 6 := rfl
  refine ksem_append apPart (by omega) (hOx.same mr21) (Src.ofSlIs (hk := slPart_is.choose_spec) 1 (SlIs.blk hb21 rfl) rfl) (by omega) (by omega) ?_
  intro v' w23 hO23 m23 hf23
  unfold f126_3
  refine add_at (by omega) (by omega) ?_
  rw [cast_succ]
  have hzr := (hwr.trans mr21).size
  refine hJ _ _ _ hlt ⟨rfl, ?_, Mod.after (hwr.trans mr21) m23 hxk, fun k hk => ?_⟩
  ·rw [htk, List.map_append, List.flatMap_append]; simpa using hO23
  ·rcases hf23 k hk with h | h
   ·exact hxk k h
   ·omega
 ·have : j = (listF m).length := by omega
  subst this
  unfold f126_4
  rw [List.take_length] at hOx
  exact ⟨⟨x, rfl, hOx, fun k hk => by have := hxk k hk; omega⟩, h2.trans hwr⟩
theorem stepV_dead {L : List Comp} {cap : Nat} {frame : Int} {S : SM} {B : BdM} {nx : Nat} {x : OrdM} (hk : x.kind ≠ 1) (hf : B.l.find? (fun z => decide (((z.1 : Nat) : Int) = x.id)) = none) : stepV L cap frame (viewS S B) nx x = none := by
 unfold stepV
 rw [if_neg hk, findV_view, hf]
 rfl
theorem stepV_live {L : List Comp} {cap : Nat} {frame : Int} {S : SM} {B : BdM} {nx : Nat} {x : OrdM} (hk : x.kind ≠ 1) {y : Nat × EK} (hf : B.l.find? (fun z => decide (((z.1 : Nat) : Int) = x.id)) = some y) : stepV L cap frame (viewS S B) nx x =
   if x.kind = 2 then some (delV (viewS S B) y.1, nx)
   else if x.kind = 3 then (if hasC (partsOf S y.2.i.toNat) x.comp = true then none else some (setV (viewS S B) y.1 (insP (defP L x.comp.toNat frame) (partsOf S y.2.i.toNat)), nx))
   else (if hasC (partsOf S y.2.i.toNat) x.comp = true then some (setV (viewS S B) y.1 ((partsOf S y.2.i.toNat).filter fun q => decide (q.comp ≠ x.comp)), nx) else none) := by
 unfold stepV
 rw [if_neg hk, findV_view, hf]
 rfl
theorem oDo {pr : Nat → Prop} {Sa : Nat → Addr} {c : WC} {w0 : World} (hL : LaidP pr Sa w0) (h6 : pr 6) (h7 : pr 7) (h9 : pr 9) (h17 : pr 17) (hD : DeAt w0) {fx : Nat → Prop} {w : World} {S : SM} {t : Nat} {B : BdM} (h : WdAt c w0 fx w S t B) (ht : t ≤ 10000) (hnx : B.nx ≤ 1000000)
  {o : OC} {U : Nat → Prop} {l : List OrdM} {gv dr : Nat} (hO : OAt o U w l gv dr) (hOL : o.L = c.L) (x : OrdM) (hx : x.ok) (hfit : x.fit o.L.length) :
  Meets Tryz.prog 80 #[.pointer (some ⟨o.bo, 0, none⟩), .pointer (some ⟨c.bw, 0, none⟩), x.val] w fun v w' =>
   (∃ r, stepV c.L S.gens.length c.frame (viewS S B) B.nx x = some r ∧ v = .nilIface ∧ Out c w0 fx w S t B (some r) w') ∨ (stepV c.L S.gens.length c.frame (viewS S B) B.nx x = none ∧ ErrI v ∧ Out c w0 fx w S t B none w') := by
 obtain ⟨k1, k2, k3, k4⟩ := hx
 rw [hOL] at hfit
 have hln := h.good.len
 have hDw := hD.same h.A.same0
 unfold OrdM.val
 refine f80_ok ?_
 unfold f80
 refine knew_of fun w2 h2 hs2 hb2 => ?_
 have hb2 : blk w2 w.heap.size = some (.cells x.cells.toArray 69) := hb2
 refine kfld_of ?_
 refine kld_of (v := .int .i64 x.kind) hb2 rfl ?_
 refine eql_at ?_
 refine kB_at ?_
 refine kIf_dec (fun e1 => ?_) (fun e1 => ?_)
 ·have hmk : x.mask < 2 ^ c.L.length := by
   rcases hfit with e | e | e
   ·exact e.2
   ·omega
   ·omega
  refine kfld_of ?_
  have md : Same w2 w2.drew := (Mod.refl (fun _ => False) _).drew
  have mw := h2.trans md
  have hbd := md.get hb2 (fun h => h)
  generalize w2.drew = wd at *
  refine kld_of (v := msk x.mask) hbd rfl ?_
  refine kG_of rfl ?_
  refine kcall_of (wFrame (h.loc mw).here) ?_
  rintro v w9 ⟨rfl, rfl⟩
  refine kG_of (kld_of (v := msk x.mask) hbd rfl ⟨rfl, rfl⟩) ?_
  refine kcall_of (oParts (hDw.same mw) (hO.same mw) (by rw [hOL]; exact hmk) c.frame) ?_
  rintro v w11 ⟨⟨s, rfl, hOs, hsk⟩, h11⟩
  rw [hOL] at hOs
  refine kext_at rfl ?_
  refine kext_at rfl ?_
  rw [keq_nil_nil' ifErr]
  refine kB_at ?_
  refine kIf_F rfl ?_
  unfold f80_0
  have m11 := mw.trans h11
  have h11' := h.ext m11
  have hzw := mw.size
  have hfa : ∀ k, vblk s k → (fx k ∨ (w.heap.size ≤ k ∧ k < w11.heap.size)) := fun k hk => .inr ⟨by have := hsk k hk; omega, hOs.vblk_lt hk⟩
  obtain ⟨a', n', c', rfl, hsl, _⟩ := hOs.is
  have hfl := flat_len Part.cells 6 (fun _ => rfl) (defsL c.L x.mask c.frame)
  have hn' : n' = (defsL c.L x.mask c.frame).length := by have h1 := hsl.1; omega
  subst hn'
  have hdl := defsL_len c.L x.mask c.frame
  have e : stepV c.L S.gens.length c.frame (viewS S B) B.nx x = if (viewS S B).length < S.gens.length then some (viewS S B ++ [(B.nx, defsL c.L x.mask c.frame)], B.nx + 1) else none := by
   unfold stepV; rw [if_pos e1]
  by_cases hlt : (viewS S B).length < S.gens.length
  ·refine kcall_of (wSpawn_ok hL h6 hD h11' ht hnx hsl (fun k f e => hfa k ⟨_, _, _, by rw [e]⟩) (by omega) (defsL_fits h.good hmk c.frame) (defsL_nt _ _ _) (defsL_sort _ _ _) hlt) ?_
   rintro v w17 ⟨rfl, hO17⟩
   refine kext_at rfl ?_
   refine kext_at rfl ?_
   rw [if_pos hlt] at e
   exact .inl ⟨_, e, rfl, hO17.back (fun k hk => .inl hk) m11 h.fm⟩
  ·refine kcall_of (wSpawn_no hL h6 hD h11' ht hnx hsl (fun k f e => hfa k ⟨_, _, _, by rw [e]⟩) (by omega) (defsL_fits h.good hmk c.frame) (defsL_nt _ _ _) (defsL_sort _ _ _) hlt) ?_
   rintro v w17 ⟨⟨er, rfl, hE⟩, hO17⟩
   refine kext_at rfl ?_
   refine kext_at rfl ?_
   rw [if_neg hlt] at e
   exact .inr ⟨e, hE.if, hO17.back (fun k hk => .inl hk) m11 h.fm⟩
 have hw2 := h.loc h2
 refine eql_at ?_
 refine kB_at ?_
 refine kIf_dec (fun e2 => ?_) (fun e2 => ?_)
 ·refine kfld_of ?_
  refine kld_of (v := .int .i64 x.id) hb2 rfl ?_
  cases hf : B.l.find? (fun z => decide (((z.1 : Nat) : Int) = x.id)) with
  | none =>
   refine kcall_of (wDespawn_no hL h17 hw2 hf) ?_
   rintro v w26 ⟨hE, h26⟩
   exact .inr ⟨stepV_dead e1 hf, hE.if, Out.none h (h2.trans h26)⟩
  | some y =>
   refine kcall_of (wDespawn_ok hw2 hf) ?_
   rintro v w26 ⟨rfl, hO26⟩
   refine .inl ⟨_, (stepV_live e1 hf).trans (if_pos e2), rfl, hO26.back (fun k hk => hk) h2 h.fm⟩
 obtain ⟨h34, hc0, hcn⟩ : (x.kind = 3 ∨ x.kind = 4) ∧ 0 ≤ x.comp ∧ x.comp < c.L.length := by
  rcases hfit with e | e | e
  ·exact absurd e.1 e1
  ·exact absurd e e2
  ·exact e
 obtain ⟨n, hn⟩ : ∃ n : Nat, x.comp = (n : Int) := ⟨x.comp.toNat, by omega⟩
 have hnl : n < c.L.length := by omega
 refine eql_at ?_
 refine kB_at ?_
 refine kIf_dec (fun e3 => ?_) (fun e3 => ?_)
 ·refine kfld_of ?_
  refine kld_of (v := .int .i64 x.id) hb2 rfl ?_
  refine kfld_of ?_
  refine kld_of (v := .int .i64 n) hb2 (by rw [← hn]; rfl) ?_
  cases hf : B.l.find? (fun z => decide (((z.1 : Nat) : Int) = x.id)) with
  | none =>
   refine kcall_of (wInsert_dead hL h17 hw2 hf) ?_
   rintro v w26 ⟨hE, h26⟩
   exact .inr ⟨stepV_dead e1 hf, hE.if, Out.none h (h2.trans h26)⟩
  | some y =>
   have e := stepV_live (L := c.L) (cap := S.gens.length) (frame := c.frame) (S := S) (nx := B.nx) e1 hf
   rw [if_neg e2, if_pos e3, hn, Int.toNat_natCast] at e
   cases hh : hasC (partsOf S y.2.i.toNat) (n : Int) with
   | true =>
    obtain ⟨z, hz, hzn⟩ := hasC_true.1 hh
    rw [hh, if_pos rfl] at e
    refine kcall_of (wInsert_twice hL h9 hw2 hnl hf hz hzn) ?_
    rintro v w26 ⟨hE, h26⟩
    exact .inr ⟨e, hE.if, Out.none h (h2.trans h26)⟩
   | false =>
    rw [hh, if_neg (by simp)] at e
    refine kcall_of (wInsert_ok hD hw2 ht hnl hf (hasC_false.1 hh)) ?_
    rintro v w26 ⟨rfl, hO26⟩
    exact .inl ⟨_, e, rfl, hO26.back (fun k hk => hk) h2 h.fm⟩
 ·unfold f80_1
  refine kfld_of ?_
  refine kld_of (v := .int .i64 x.id) hb2 rfl ?_
  refine kfld_of ?_
  refine kld_of (v := .int .i64 n) hb2 (by rw [← hn]; rfl) ?_
  cases hf : B.l.find? (fun z => decide (((z.1 : Nat) : Int) = x.id)) with
  | none =>
   refine kcall_of (wRemove_dead hL h17 hw2 hf) ?_
   rintro v w26 ⟨hE, h26⟩
   exact .inr ⟨stepV_dead e1 hf, hE.if, Out.none h (h2.trans h26)⟩
  | some y =>
   have e := stepV_live (L := c.L) (cap := S.gens.length) (frame := c.frame) (S := S) (nx := B.nx) e1 hf
   rw [if_neg e2, if_neg e3, hn] at e
   cases hh : hasC (partsOf S y.2.i.toNat) (n : Int) with
   | true =>
    obtain ⟨z, hz, hzn⟩ := hasC_true.1 hh
    rw [hh, if_pos rfl] at e
    refine kcall_of (wRemove_ok hD hw2 ht (by omega) hf hz hzn) ?_
    rintro v w26 ⟨rfl, hO26⟩
    exact .inl ⟨_, e, rfl, hO26.back (fun k hk => hk) h2 h.fm⟩
   | false =>
    rw [hh, if_neg (by simp)] at e
    refine kcall_of (wRemove_none hL h7 hw2 hf (hasC_false.1 hh)) ?_
    rintro v w26 ⟨hE, h26⟩
    exact .inr ⟨e, hE.if, Out.none h (h2.trans h26)⟩
end
section
attribute [local irreducible] kO kB kStr kInt kN kG kIf kfld kld kldN kst knew kmap kbld kbldS kext kcnv klenStr klen kcap kprt kprtN kbool kint kstr keq kun ksl kix kiv kta kmk kmm ksem ksemU kextf kcallV kcallM kcall kL
def FlI (c : WC) (w0 w : World) (fx : Nat → Prop) (S : SM) (t : Nat) (B : BdM) (o : OC) (U : Nat → Prop) (l : List OrdM) (gv dr : Nat) (a : Option Addr) (j : Nat) (y : Value) (wr : World) : Prop :=
 y = .int .i64 j ∧ ∃ fx' S' B' d f, WdAt c w0 fx' wr S' (t + j) B' ∧ S'.gens.length = S.gens.length ∧ B'.nx ≤ B.nx + j ∧ OAt o U wr l gv dr ∧ SlIs wr a l.length 4 (l.flatMap OrdM.cells) ∧ blk wr w.heap.size = some (.cells #[natV d, natV f] 75) ∧ d + f = j ∧
  flushF c.L S.gens.length c.frame (l.take j) ((viewS S B, B.nx), 0, 0) = ((viewS S' B', B'.nx), d, f) ∧ (∀ k, fx k → fx' k) ∧ fx' w.heap.size ∧ Mod (fun k => w0.heap.size ≤ k ∧ ¬ fx k) w wr
theorem oFlush {pr : Nat → Prop} {Sa : Nat → Addr} {c : WC} {w0 : World} (hL : LaidP pr Sa w0) (h6 : pr 6) (h7 : pr 7) (h9 : pr 9) (h17 : pr 17) (hD : DeAt w0) {o : OC} (hOL : o.L = c.L) {X : Nat → Prop} {w : World} {S : SM} {t : Nat} {B : BdM} {l : List OrdM} {gv dr : Nat} (h : Pair c w0 o X w S t B l gv dr) (ht : t + l.length ≤ 10000) (hnx : B.nx + l.length ≤ 1000000) :
  Meets Tryz.prog 26 #[.pointer (some ⟨o.bo, 0, none⟩), .pointer (some ⟨c.bw, 0, none⟩)] w fun v w' => ∃ S' B' d f, v = .tuple #[.agg #[natV d, natV f], .nilIface] ∧ d + f = l.length ∧ flushF c.L S.gens.length c.frame l ((viewS S B, B.nx), 0, 0) = ((viewS S' B', B'.nx), d, f) ∧
   S'.gens.length = S.gens.length ∧ B'.nx ≤ B.nx + l.length ∧ Pair c w0 o X w' S' (t + l.length) B' [] gv dr ∧ Mod (fun k => w0.heap.size ≤ k ∧ ¬ X k) w w' := by
 obtain ⟨⟨fx, U, hW, hO, hU, hX⟩, h0⟩ := h
 have hO' := hO
 obtain ⟨⟨sv, hh, hOw, hv⟩, hcm, hown, hca, hgood, hrv, hfit⟩ := hO'
 obtain ⟨a, n', c', rfl, hsl, _⟩ := hOw.is
 have hfl := flat_len OrdM.cells 4 (fun _ => rfl) l
 have hn' : n' = l.length := by have h1 := hsl.1; omega
 subst hn'
 have hzw := hW.A.same0.size
 have hlt := fun k (hk : fx k) => (hW.A.lt hk).2
 refine f26_ok ?_
 unfold f26
 refine knew_of fun w2 h2 hs2 hb2 => ?_
 have hb2 : blk w2 w.heap.size = some (.cells #[natV 0, natV 0] 75) := hb2
 rw [keq_ptr_nil ptOrd]
 refine kB_at ?_
 refine kIf_T rfl ?_
 rw [keq_ptr_nil ptWor]
 unfold f26_0
 refine kB_at ?_
 refine kIf_F rfl ?_
 unfold f26_1
 refine kN_at ?_
 refine kfld_of ?_
 refine kld_of (v := .slice a l.length c') (h2.get hh (fun h => h)) rfl ?_
 refine klen_at ?_
 refine kL1_of l.length (FlI c w0 w fx S t B o U l gv dr a) ⟨lI1_0 ?_, fun y wr hx => ?_⟩
 ·exact ⟨rfl, _, S, B, 0, 0, hW.ext h2, rfl, Nat.le_refl _, hO.same h2, hsl.same h2, hb2, rfl, rfl, fun k hk => .inl hk, .inr ⟨Nat.le_refl _, by omega⟩, Mod.of_same h2⟩
 obtain ⟨j, hj, ⟨rfl, fx', S', B', d, f, hWr, hgl, hnr, hOr, hslr, hbr, hdf, hfl', hfx, hfr, hmr⟩, hJ⟩ := lI1_step hx
 unfold f26_2
 refine lss_at ?_
 refine kB_at ?_
 refine kIf_dec (fun hlt2 => ?_) (fun hge => ?_)
 ·have hjl : j < l.length := by omega
  obtain ⟨hxf, hxo⟩ := hfit _ (List.getElem_mem hjl)
  unfold f26_3
  refine kixldN_of (F := OrdM.cells) (sz := 4) (fun _ => rfl) (by omega) hslr hjl rfl ?_
  refine knew_of fun w22 h22 hs22 hb22 => ?_
  refine kst_of (vs := (l[j]).cells) hb22 rfl rfl rfl (by simp) (by simp [OrdM.cells]) fun w23 h23 hs23 hb23 => ?_
  have hb23 : blk w23 wr.heap.size = some (.cells (l[j]).cells.toArray 69) := hb23
  have m23 : Same wr w23 := h22.trans' (h23.mono fun k _ e => .inr (by omega))
  refine kldN_at (cs := (l[j]).cells) hb23 rfl (by omega) ?_
  have hW23 := hWr.ext m23
  have hdo := oDo hL h6 h7 h9 h17 hD hW23 (by omega) (by omega) (hOr.same m23) hOL l[j] hxo hxf
  rw [OrdM.val] at hdo
  refine kcall_of hdo ?_
  intro v w26 hres
  have next : ∀ (S2 : SM) (B2 : BdM) (d2 f2 : Nat) (w33 : World), WdAt c w0 (fun k => fx' k ∨ (wr.heap.size ≤ k ∧ k < w23.heap.size)) w26 S2 (t + j + 1) B2 → S2.gens.length = S'.gens.length → Mod (fun k => w0.heap.size ≤ k ∧ ¬ (fx' k ∨ (wr.heap.size ≤ k ∧ k < w23.heap.size))) w23 w26 → Mod (fun k => k = w.heap.size) w26 w33 → blk w33 w.heap.size = some (.cells #[natV d2, natV f2] 75) → d2 + f2 = j + 1 → stepR c.L S.gens.length c.frame ((viewS S' B', B'.nx), d, f) l[j] = ((viewS S2 B2, B2.nx), d2, f2) →
    FlI c w0 w fx S t B o U l gv dr a (j + 1) (.int .i64 ((j + 1 : Nat) : Int)) w33 := by
   intro S2 B2 d2 f2 w33 hW2 hg2 m26 m33 hb33 hdf2 hst
   have hz23 := m23.size
   have hz26 := m26.size
   have hwlt := lt_of_blk hbr
   have hnx2 := stepR_nx c.L S.gens.length c.frame ((viewS S' B', B'.nx), d, f) l[j]
   rw [hst] at hnx2
   have keep : ∀ k, U k → ¬ (w0.heap.size ≤ k ∧ ¬ (fx' k ∨ (wr.heap.size ≤ k ∧ k < w23.heap.size))) := fun k hk hn => hn.2 (.inl (hfx k (hU k hk).1))
   have keep2 : ∀ k, U k → ¬ k = w.heap.size := fun k hk e => by have := hlt k (hU k hk).1; omega
   have hcf : ∀ k f, a = some ⟨k, f, none⟩ → U k := fun k f e => (hv k ⟨f, l.length, c', by rw [e]⟩).1
   refine ⟨rfl, _, S2, B2, d2, f2, (hW2.other m33 fun k e => ?_), hg2.trans hgl, ?_, ((hOr.same m23).mod m26 keep).mod m33 keep2, (((hslr.same m23).mod m26 fun k f e => keep k (hcf k f e))).mod m33 fun k f e => keep2 k (hcf k f e), hb33, hdf2, ?_, fun k hk => .inl (.inl (hfx k hk)), .inl (.inl hfr), ?_⟩
   ·rw [e]
    refine ⟨.inl hfr, fun e => ?_⟩
    have := hlt _ (hW.fm _ e); omega
   ·have := hnx2.2; show B2.nx ≤ _; have h3 : B2.nx ≤ B'.nx + 1 := this; omega
   ·rw [flushF_take hjl, hfl', hst]
   ·refine ((hmr.trans (Mod.of_same m23)).trans (m26.mono fun k _ hk => ⟨hk.1, fun hx => hk.2 (.inl (hfx k hx))⟩)).trans (m33.mono fun k _ e => ⟨by omega, fun hx => by have := hlt k hx; omega⟩)
  rcases hres with ⟨r, hst, rfl, S2, B2, hW2, hg2, m26, hv2, hn2⟩ | ⟨hst, ⟨ty, z, rfl⟩, S2, B2, hW2, hg2, m26, hv2, hn2⟩
  ·have hb26 := m26.get (m23.get hbr (fun h => h)) (fun hk => hk.2 (.inl hfr))
   rw [keq_nil_nil ifErr]
   refine kB_at ?_
   refine kIf_T rfl ?_
   refine kfld_of ?_
   refine kld_of (v := natV d) hb26 rfl ?_
   refine add_at (by omega) (by omega) ?_
   refine kfld_of ?_
   refine kst1_of hb26 rfl rfl (by show 0 < 2; omega) fun w33 h33 hs33 hb33 => ?_
   unfold f26_4
   refine add_at (by omega) (by omega) ?_
   rw [cast_succ]
   rw [hgl] at hst
   refine hJ _ _ hjl (next S2 B2 (d + 1) f w33 hW2 hg2 m26 h33 hb33 (by omega) ?_)
   unfold stepR
   have hst' : stepV c.L S.gens.length c.frame ((viewS S' B', B'.nx), d, f).1.1 ((viewS S' B', B'.nx), d, f).1.2 l[j] = some r := hst
   rw [hst', hv2, hn2]
  ·have hb26 := m26.get (m23.get hbr (fun h => h)) (fun hk => hk.2 (.inl hfr))
   rw [keq_if_nil ifErr]
   refine kB_at ?_
   refine kIf_F rfl ?_
   refine kfld_of ?_
   refine kld_of (v := natV f) hb26 rfl ?_
   refine add_at (by omega) (by omega) ?_
   refine kfld_of ?_
   refine kst1_of hb26 rfl rfl (by show 1 < 2; omega) fun w39 h39 hs39 hb39 => ?_
   unfold f26_4
   refine add_at (by omega) (by omega) ?_
   rw [cast_succ]
   rw [hgl] at hst
   refine hJ _ _ hjl (next S2 B2 d (f + 1) w39 hW2 hg2 m26 h39 hb39 (by omega) ?_)
   unfold stepR
   have hst' : stepV c.L S.gens.length c.frame ((viewS S' B', B'.nx), d, f).1.1 ((viewS S' B', B'.nx), d, f).1.2 l[j] = none := hst
   rw [hst', hv2, hn2]
 ·have : j = l.length := by omega
  subst this
  rw [flushF_all] at hfl'
  obtain ⟨sv2, hhr, hOwr, hvr⟩ := hOr.ex
  unfold f26_5
  refine kN_at ?_
  refine kfld_of ?_
  refine kst1_of hhr rfl rfl (by show 3 < 6; omega) fun w42 h42 hs42 hb42 => ?_
  have hb42 : blk w42 o.bo = some (.cells (o.cells (.slice none 0 0) gv dr) 152) := hb42
  have hbo := hlt _ (hU _ hown).1
  have hbr42 := h42.get hbr (by omega)
  refine kldN_at (cs := [natV d, natV f]) hbr42 rfl (by omega) ?_
  refine kst_of (vs := [natV d, natV f]) hbr42 rfl rfl rfl (by simp) (by simp) fun w44 h44 hs44 hb44 => ?_
  have hb44 : blk w44 w.heap.size = some (.cells #[natV d, natV f] 75) := hb44
  refine kldN_at (cs := [natV d, natV f]) hb44 rfl (by omega) ?_
  have hW42 := hWr.other h42 fun k e => by rw [e]; exact ⟨hfx _ (hU _ hown).1, (hU _ hown).2.2⟩
  have hW44 := hW42.other h44 fun k e => by
   rw [e]
   refine ⟨.inl hfr, fun e => ?_⟩
   have := hlt _ (hW.fm _ e); omega
  refine ⟨S', B', d, f, rfl, hdf, hfl', hgl, hnr, ⟨⟨fx, U, hW44.less (fun k hk => .inl (.inl (hfx k hk))) hW.fm, ⟨⟨.slice none 0 0, h44.get hb42 (by omega), Own.nil _ _, fun k hk => by obtain ⟨_, _, _, e⟩ := hk; cases e⟩, (hOr.comps.mod h42 fun k f e hk => (hca k f e).2 hk).mod h44 fun k f e hk => ?_, hown, hca, hgood, hrv, fun x hx => by cases hx⟩, hU, hX⟩, h0⟩, ?_⟩
  ·have := hlt k (hU k (hca k f e).1).1; omega
  ·refine ((hmr.mono fun k _ hk => ⟨hk.1, fun hx => hk.2 (hX k hx)⟩).trans (h42.mono fun k _ e => ?_)).trans (h44.mono fun k _ e => ⟨by omega, fun hx => by have := hlt k (hX k hx); omega⟩)
   rw [e]
   exact ⟨(hW.A.lt (hU _ hown).1).1, (hU _ hown).2.1⟩
end
section
attribute [local irreducible] kO kB kStr kInt kN kG kIf kfld kld kldN kst knew kmap kbld kbldS kext kcnv klenStr klen kcap kprt kprtN kbool kint kstr keq kun ksl kix kiv kta kmk kmm ksem ksemU kextf kcallV kcallM kcall kL
theorem gNew0 {w : World} {a : Option Addr} {L : List Comp} {cp : Nat} {ra : Option Addr} {rc : Nat} (hs : SlIs w a L.length 7 (L.flatMap Comp.cells)) (hG : GoodSc L) :
  Meets Tryz.prog 73 #[scV a L.length cp (.slice ra 0 rc)] w fun v w' => (∃ g gm, v = .tuple #[.pointer (some ⟨g, 0, none⟩), .nilIface] ∧ w.heap.size ≤ g ∧ blk w' g = some (.cells #[gm, .slice none 0 0, .int .i64 0] 221)) ∧ Same w w' := by
 rw [scV]
 refine f73_ok ?_
 unfold f73
 refine knew_of fun w2 h2 hs2 hb2 => ?_
 have hb2 : blk w2 w.heap.size = some (.cells #[.slice a L.length cp, .slice ra 0 rc] 33) := hb2
 refine kldN_at (cs := [.slice a L.length cp, .slice ra 0 rc]) hb2 rfl (by omega) ?_
 have hck := check_spec (ra := ra) (rc := rc) (cp := cp) (hs.same h2) hG
 rw [scV] at hck
 refine kcall_of hck ?_
 rintro v w5 ⟨rfl, h5⟩
 rw [keq_nil_nil' ifErr]
 refine kB_at ?_
 refine kIf_F rfl ?_
 unfold f73_0
 refine kmap_of fun w11 h11 hs11 hm11 => ?_
 refine kbld_of (cs := [.map (some w5.heap.size), .slice none 0 0, .int .i64 0]) rfl ?_
 refine knew_of fun w14 h14 hs14 hb14 => ?_
 have m14 := (h2.trans h5).trans (h11.trans h14)
 refine kfld_of ?_
 refine kld_of (v := .slice ra 0 rc) ((h5.trans (h11.trans h14)).get hb2 (fun h => h)) rfl ?_
 refine klen_at ?_
 refine kL1_of 0 (fun j y wr => y = .int .i64 0 ∧ wr = w14) ⟨lI1_0 ⟨rfl, rfl⟩, fun y wr hx => ?_⟩
 obtain ⟨j, hj, ⟨rfl, rfl⟩, hJ⟩ := lI1_step hx
 unfold f73_1
 refine lss_at ?_
 rw [decF (by omega)]
 refine kB_at ?_
 refine kIf_F rfl ?_
 unfold f73_4
 have hz2 := h2.size
 have hz5 := h5.size
 exact ⟨⟨_, _, rfl, by omega, hb14⟩, m14⟩
theorem oNew {w : World} {a : Option Addr} {L : List Comp} {cp : Nat} {ra : Option Addr} {rc : Nat} (hs : SlIs w a L.length 7 (L.flatMap Comp.cells)) (hG : GoodSc L) (h0 : 0 < L.length) {most : Nat} (hm : most ≤ 64) :
  Meets Tryz.prog 23 #[scV a L.length cp (.slice ra 0 rc), .int .i64 most] w fun v w' => ∃ o : OC, v = .tuple #[.pointer (some ⟨o.bo, 0, none⟩), .nilIface] ∧ o.L = L ∧ o.most = most ∧ OAt o (fun k => w.heap.size ≤ k) w' [] 0 0 ∧ Same w w' := by
 have hl := hG.len
 rw [scV]
 refine f23_ok ?_
 unfold f23
 refine knew_of fun w2 h2 hs2 hb2 => ?_
 have hb2 : blk w2 w.heap.size = some (.cells #[.slice a L.length cp, .slice ra 0 rc] 33) := hb2
 refine kldN_at (cs := [.slice a L.length cp, .slice ra 0 rc]) hb2 rfl (by omega) ?_
 have hck := check_spec (ra := ra) (rc := rc) (cp := cp) (hs.same h2) hG
 rw [scV] at hck
 refine kcall_of hck ?_
 rintro v w5 ⟨rfl, h5⟩
 rw [keq_nil_nil' ifErr]
 refine kB_at ?_
 refine kIf_F rfl ?_
 unfold f23_0
 refine lss_at ?_
 rw [decF (by omega)]
 refine kB_at ?_
 refine kIf_T rfl ?_
 refine gtr_at ?_
 rw [decF (by omega)]
 unfold f23_1
 refine kB_at ?_
 refine kIf_F rfl ?_
 unfold f23_2
 refine kfld_of ?_
 refine kld_of (v := .slice a L.length cp) (h5.get hb2 (fun h => h)) rfl ?_
 have m5 := h2.trans h5
 have hz5 := m5.size
 refine kcall_of (cloneC_spec (hs.same m5) (by omega)) ?_
 rintro v w19 ⟨hO19, h19, hf19⟩
 obtain ⟨a1, n1, c1, rfl, hs19, _⟩ := hO19.is
 have hfl := flat_len Comp.cells 7 (fun _ => rfl) L
 have hn1 : n1 = L.length := by have h1 := hs19.1; omega
 subst hn1
 refine kbld_of (cs := [.slice a1 L.length c1, .slice none 0 0]) rfl ?_
 refine knew_of fun w22 h22 hs22 hb22 => ?_
 refine kst_of (vs := [.slice a1 L.length c1, .slice none 0 0]) hb22 rfl rfl rfl (by simp) (by simp) fun w23 h23 hs23 hb23 => ?_
 have hb23 : blk w23 w19.heap.size = some (.cells #[.slice a1 L.length c1, .slice none 0 0] 33) := hb23
 have m23 : Same w19 w23 := h22.trans' (h23.mono fun k _ e => .inr (by omega))
 refine kldN_at (cs := [.slice a1 L.length c1, .slice none 0 0]) hb23 rfl (by omega) ?_
 refine kbld_of (cs := [.slice a1 L.length c1, .slice none 0 0, natV most, .slice none 0 0, natV 0, natV 0]) rfl ?_
 refine knew_of fun w27 h27 hs27 hb27 => ?_
 have hz19 := h19.size
 have hz23 := m23.size
 have hlt1 := sl_lt hs19 h0 (by omega)
 refine ⟨⟨w23.heap.size, a1, c1, .slice none 0 0, L, most⟩, rfl, rfl, rfl, ⟨⟨.slice none 0 0, hb27, Own.nil _ _, fun k hk => by obtain ⟨_, _, _, e⟩ := hk; cases e⟩, hs19.same (m23.trans h27), by show w.heap.size ≤ w23.heap.size; omega, fun k f e => ?_, hG, rfl, fun x hx => by cases hx⟩, (m5.trans h19).trans (m23.trans h27)⟩
 have e : a1 = some ⟨k, f, none⟩ := e
 have h1 := hf19 k ⟨f, L.length, c1, by rw [e]⟩
 have h2 := hlt1 k f e
 exact ⟨by omega, by show k ≠ w23.heap.size; omega⟩
theorem newS_link (L : List Comp) (most : Nat) : Link (newS L most) ⟨[], 1⟩ where
 live x hx := by cases hx
 all i g hg := by
  have : (List.replicate most ((0 : Int), false))[i]? = some (g, true) := hg
  obtain ⟨_, e⟩ := List.getElem?_eq_some_iff.1 this
  rw [List.getElem_replicate] at e; cases e
 tm := by simp [newS, newS0, layS]
 cnt := by simp [newS, newS0, layS]
theorem wNew_tail {w0 w : World} {o : Lab} {b : Nat} {p : Ptrs} {L : List Comp} {most : Nat} (hG : GoodSc L) (C : Cur w0 o w b p (newS L most) 0) {a : Option Addr} {cp : Nat} {ra : Option Addr} {rc : Nat} (hs : SlIs w a L.length 7 (L.flatMap Comp.cells)) {bs : Nat} (hbs : blk w bs = some (.cells #[.slice a L.length cp, .slice ra 0 rc] 33))
  {a1 : Option Addr} {c1 : Nat} {a2 : Option Addr} {n2 c2 : Nat} (hs1 : SlIs w a1 L.length 7 (L.flatMap Comp.cells)) (ha1 : ∀ k f, a1 = some ⟨k, f, none⟩ → w0.heap.size ≤ k ∧ k < w.heap.size ∧ o k = none) {bc : Nat} (hbc : blk w bc = some (.cells #[.slice a1 L.length c1, .slice a2 n2 c2] 33)) (seed : Int) {g : Nat} {gm : Value} (hg : blk w g = some (.cells #[gm, .slice none 0 0, .int .i64 0] 221)) (hglo : w0.heap.size ≤ g ∧ o g = none) {Q : Value → World → Prop}
  (hQ : ∀ (c : WC) w', c.L = L → c.frame = 0 → c.seed = seed → c.rolled = rollF (L.map (·.rb)) → c.R = [] → WdAt c w0 c.mine w' (newS L most) 0 ⟨[], 1⟩ → Q (.tuple #[.pointer (some ⟨c.bw, 0, none⟩), .nilIface]) w') :
  f21_2 (.int .i64 seed) (.pointer (some ⟨bs, 0, none⟩)) (ptrV b) (.pointer (some ⟨g, 0, none⟩)) (.pointer (some ⟨bc, 0, none⟩)) Q w := by
 have hl := hG.len
 rw [ptrV]
 unfold f21_2
 have md : Same w w.drew := (Mod.refl (fun _ => False) _).drew
 have hbs := md.get hbs (fun h => h)
 have hbc := md.get hbc (fun h => h)
 have C := C.loc md
 have hgd := md.get hg (fun h => h)
 have hgl := lt_of_blk hgd
 have hs := hs.same md
 have hs1 := hs1.same md
 have hzd := md.size
 generalize w.drew = wd at *
 refine kldN_at (cs := [.slice a1 L.length c1, .slice a2 n2 c2]) hbc rfl (by omega) ?_
 refine kG_of rfl ?_
 refine kcall_of (bdNew wd) ?_
 rintro v w35 ⟨bb, rfl, hB, h35⟩
 refine kG_of (kldN_at (cs := [.slice a1 L.length c1, .slice a2 n2 c2]) (h35.get hbc (fun h => h)) rfl (by omega) ⟨rfl, rfl⟩) ?_
 refine kldN_at (cs := [.slice a L.length cp, .slice ra 0 rc]) (h35.get hbs (fun h => h)) rfl (by omega) ?_
 refine kG_of rfl ?_
 refine kG_of (kldN_at (cs := [.slice a L.length cp, .slice ra 0 rc]) hbs rfl (by omega) ⟨rfl, rfl⟩) ?_
 refine kcall_of (Rollback_spec L (by omega) a cp (.slice ra 0 rc) w35 (hs.same h35) rfl) ?_
 rintro v w38 ⟨rfl, h38⟩
 refine kG_of (kldN_at (cs := [.slice a1 L.length c1, .slice a2 n2 c2]) ((h35.trans h38).get hbc (fun h => h)) rfl (by omega) ⟨rfl, rfl⟩) ?_
 refine kbld_of (cs := [.slice a1 L.length c1, .slice a2 n2 c2, .pointer (some ⟨b, 0, none⟩), .pointer (some ⟨bb, 0, none⟩), .pointer (some ⟨g, 0, none⟩), msk (rollF (L.map (·.rb))), .int .i64 0, .int .i64 seed, .pointer none]) rfl ?_
 refine knew_of fun w41 h41 hs41 hb41 => ?_
 have m41 := (h35.trans h38).trans h41
 have hz35 := h35.size
 have hz38 := h38.size
 have hz0 := C.same.size
 refine hQ ⟨w38.heap.size, b, bb, a1, c1, .slice a2 n2 c2, g, gm, .slice none 0 0, .int .i64 0, [], L, rollF (L.map fun x : Comp => x.rb), 0, seed⟩ w41 rfl rfl rfl rfl rfl ⟨hb41, fun k hk => hk, hs1.same m41, m41.get hgd (fun h => h), Own.nil _ _, rfl, hG, rollF_lt _, ⟨o, p, fun k => wd.heap.size ≤ k ∧ k < w35.heap.size, C.loc m41, (hB.mono (U' := fun k => wd.heap.size ≤ k ∧ k < w35.heap.size) fun k hk hu => ⟨hu, hk⟩).same (h38.trans h41), fun k hk => ⟨by omega, C.hi k hk.1, fun hx => ?_⟩, fun k hx => ?_⟩, newS_link L most, rfl⟩
 ·have hx : k = w38.heap.size ∨ (∃ f, a1 = some ⟨k, f, none⟩) ∨ k = g ∨ vblk (.slice none 0 0) k := hx
  rcases hx with e | ⟨f, e⟩ | e | ⟨_, _, _, e⟩
  ·omega
  ·have := (ha1 k f e).2.1; omega
  ·omega
  ·cases e
 ·have hx : k = w38.heap.size ∨ (∃ f, a1 = some ⟨k, f, none⟩) ∨ k = g ∨ vblk (.slice none 0 0) k := hx
  rcases hx with e | ⟨f, e⟩ | e | ⟨_, _, _, e⟩
  ·exact ⟨by omega, by omega, C.hi k (by omega)⟩
  ·obtain ⟨h1, h2, h3⟩ := ha1 k f e
   exact ⟨h1, by omega, h3⟩
  ·rw [e]; exact ⟨hglo.1, by omega, hglo.2⟩
  ·cases e
theorem wNew {w : World} (hD : DeAt w) {a : Option Addr} {L : List Comp} {cp : Nat} {ra : Option Addr} {rc : Nat} (hs : SlIs w a L.length 7 (L.flatMap Comp.cells)) (hG : GoodSc L) (h0 : 0 < L.length) {most : Nat} (hm : most ≤ 64) (seed : Int) :
  Meets Tryz.prog 21 #[scV a L.length cp (.slice ra 0 rc), .int .i64 most, .int .i64 seed] w fun v w' => ∃ c : WC, v = .tuple #[.pointer (some ⟨c.bw, 0, none⟩), .nilIface] ∧ c.L = L ∧ c.frame = 0 ∧ c.seed = seed ∧ c.rolled = rollF (L.map (·.rb)) ∧ c.R = [] ∧ WdAt c w c.mine w' (newS L most) 0 ⟨[], 1⟩ := by
 have hl := hG.len
 have hfl := flat_len Comp.cells 7 (fun _ => rfl) L
 have hsc : scV a L.length cp (.slice ra 0 rc) = .agg #[.slice a L.length cp, .slice ra 0 rc] := rfl
 rw [hsc]
 refine f21_ok ?_
 unfold f21
 refine knew_of fun w2 h2 hs2 hb2 => ?_
 have hb2 : blk w2 w.heap.size = some (.cells #[.slice a L.length cp, .slice ra 0 rc] 33) := hb2
 refine kldN_at (cs := [.slice a L.length cp, .slice ra 0 rc]) hb2 rfl (by omega) ?_
 have hsn := sNew_spec (hD.same h2) (ra := ra) (rc := rc) (cp := cp) (hs.same h2) hG hm
 rw [hsc] at hsn
 refine kcall_of hsn ?_
 rintro v w5 ⟨b, rfl, o, p, hP5, hlo5, hhi5, h5⟩
 have hz2 := h2.size
 have C5 : Cur w o w5 b p (newS L most) 0 := ⟨hP5, newS_gs hm, fun k hk => hlo5 k (by omega), hhi5, h2.trans h5⟩
 refine kext_at rfl ?_
 refine kext_at rfl ?_
 rw [keq_nil_nil' ifErr]
 refine kB_at ?_
 refine kIf_F rfl ?_
 unfold f21_0
 have hb5 := h5.get hb2 (fun h => h)
 refine kldN_at (cs := [.slice a L.length cp, .slice ra 0 rc]) hb5 rfl (by omega) ?_
 have hgn := gNew0 (ra := ra) (rc := rc) (cp := cp) (hs.same C5.same) hG
 rw [hsc] at hgn
 refine kcall_of hgn ?_
 rintro v w14 ⟨⟨g, gm, rfl, hglo, hg14⟩, h14⟩
 refine kext_at rfl ?_
 refine kext_at rfl ?_
 rw [keq_nil_nil' ifErr]
 refine kB_at ?_
 refine kIf_F rfl ?_
 unfold f21_1
 have md : Same w14 w14.drew := (Mod.refl (fun _ => False) _).drew
 have Cd := C5.loc (h14.trans md)
 have hbd := (h14.trans md).get hb5 (fun h => h)
 have hgd := md.get hg14 (fun h => h)
 have hgo : w.heap.size ≤ g ∧ o g = none := ⟨by have := C5.same.size; omega, C5.hi g hglo⟩
 generalize w14.drew = wd at *
 have hsd := hs.same Cd.same
 have fin : ∀ (w' : World) (a1 : Option Addr) (c1 : Nat) (a2 : Option Addr) (n2 c2 : Nat) (bc : Nat), Same wd w' → SlIs w' a1 L.length 7 (L.flatMap Comp.cells) → (∀ k f, a1 = some ⟨k, f, none⟩ → wd.heap.size ≤ k) → blk w' bc = some (.cells #[.slice a1 L.length c1, .slice a2 n2 c2] 33) →
   f21_2 (.int .i64 seed) (.pointer (some ⟨w.heap.size, 0, none⟩)) (ptrV b) (.pointer (some ⟨g, 0, none⟩)) (.pointer (some ⟨bc, 0, none⟩)) (fun v w' => ∃ c : WC, v = .tuple #[.pointer (some ⟨c.bw, 0, none⟩), .nilIface] ∧ c.L = L ∧ c.frame = 0 ∧ c.seed = seed ∧ c.rolled = rollF (L.map (·.rb)) ∧ c.R = [] ∧ WdAt c w c.mine w' (newS L most) 0 ⟨[], 1⟩) w' := by
  intro w' a1 c1 a2 n2 c2 bc m hs1 ha1 hbc
  have hz := Cd.same.size
  exact wNew_tail hG (Cd.loc m) (hsd.same m) (m.get hbd (fun h => h)) hs1 (fun k f e => ⟨by have := ha1 k f e; omega, sl_lt hs1 h0 (by omega) k f e, Cd.hi k (ha1 k f e)⟩) hbc seed (m.get hgd (fun h => h)) hgo fun c w'' e1 e2 e3 e4 e5 hW => ⟨c, rfl, e1, e2, e3, e4, e5, hW⟩
 rw [ptrV] at fin ⊢
 refine ⟨?_, ?_⟩
 ·refine kfld_of ?_
  refine kld_of (v := .slice a L.length cp) hbd rfl ?_
  refine kG_of rfl ?_
  refine kcall_of (cloneC_spec hsd (by omega)) ?_
  rintro v w24 ⟨hO24, h24, hf24⟩
  obtain ⟨a1, n1, c1, rfl, hs24, _⟩ := hO24.is
  have hn1 : n1 = L.length := by have h1 := hs24.1; omega
  subst hn1
  have ha1 : ∀ k f, a1 = some ⟨k, f, none⟩ → wd.heap.size ≤ k := fun k f e => hf24 k ⟨f, L.length, c1, by rw [e]⟩
  have hb24 := h24.get hbd (fun h => h)
  refine ⟨?_, ?_⟩
  ·refine kfld_of ?_
   refine kld_of (v := .slice ra 0 rc) hb24 rfl ?_
   refine kG_of rfl ?_
   refine kG_of (kld_of (v := .slice ra 0 rc) hbd rfl ⟨rfl, rfl⟩) ?_
   refine kcall_of cloneR_spec ?_
   rintro v w28 ⟨⟨a2, n2, c2, rfl⟩, h28⟩
   refine knew_of fun w30 h30 hs30 hb30 => ?_
   have hb30' := (h28.trans h30).get hb24 (fun h => h)
   refine kG_of (kld_of (v := .slice ra 0 rc) hb30' rfl ⟨rfl, rfl⟩) ?_
   refine kG_of (kld_of (v := .slice a L.length cp) hb30' rfl ⟨rfl, rfl⟩) ?_
   refine kbld_of (cs := [.slice a1 L.length c1, .slice a2 n2 c2]) rfl ?_
   refine kst_of (vs := [.slice a1 L.length c1, .slice a2 n2 c2]) hb30 rfl rfl rfl (by simp) (by simp) fun w32 h32 hs32 hb32 => ?_
   have m32 : Same w28 w32 := h30.trans' (h32.mono fun k _ e => .inr (by omega))
   exact fin w32 a1 c1 _ _ _ _ (h24.trans (h28.trans m32)) (hs24.same (h28.trans m32)) ha1 hb32
  ·refine knew_of fun w49 h49 hs49 hb49 => ?_
   have hb49' := h49.get hb24 (fun h => h)
   refine kG_of (kld_of (v := .slice a L.length cp) hb49' rfl ⟨rfl, rfl⟩) ?_
   refine kfld_of ?_
   refine kld_of (v := .slice ra 0 rc) hb49' rfl ?_
   refine kG_of rfl ?_
   refine kG_of (kld_of (v := .slice ra 0 rc) hb24 rfl ⟨rfl, rfl⟩) ?_
   refine kG_of (kld_of (v := .slice ra 0 rc) hbd rfl ⟨rfl, rfl⟩) ?_
   refine kcall_of cloneR_spec ?_
   rintro v w53 ⟨⟨a2, n2, c2, rfl⟩, h53⟩
   refine kbld_of (cs := [.slice a1 L.length c1, .slice a2 n2 c2]) rfl ?_
   refine kst_of (vs := [.slice a1 L.length c1, .slice a2 n2 c2]) (h53.get hb49 (fun h => h)) rfl rfl rfl (by simp) (by simp) fun w55 h55 hs55 hb55 => ?_
   have m55 : Same w24 w55 := (h49.trans h53).trans' (h55.mono fun k _ e => .inr (by omega))
   exact fin w55 a1 c1 _ _ _ _ (h24.trans m55) (hs24.same m55) ha1 hb55
 ·refine knew_of fun w60 h60 hs60 hb60 => ?_
  have hb60' := h60.get hbd (fun h => h)
  refine kfld_of ?_
  refine kld_of (v := .slice a L.length cp) hb60' rfl ?_
  refine kG_of rfl ?_
  refine kG_of (kld_of (v := .slice a L.length cp) hbd rfl ⟨rfl, rfl⟩) ?_
  refine kcall_of (cloneC_spec (hsd.same h60) (by omega)) ?_
  rintro v w64 ⟨hO64, h64, hf64⟩
  obtain ⟨a1, n1, c1, rfl, hs64, _⟩ := hO64.is
  have hn1 : n1 = L.length := by have h1 := hs64.1; omega
  subst hn1
  have ha1 : ∀ k f, a1 = some ⟨k, f, none⟩ → wd.heap.size ≤ k := fun k f e => by have := hf64 k ⟨f, L.length, c1, by rw [e]⟩; omega
  have hb64 := h64.get hb60' (fun h => h)
  refine kfld_of ?_
  refine kld_of (v := .slice ra 0 rc) hb64 rfl ?_
  refine kG_of rfl ?_
  refine kG_of (kld_of (v := .slice ra 0 rc) hb60' rfl ⟨rfl, rfl⟩) ?_
  refine kG_of (kld_of (v := .slice ra 0 rc) hbd rfl ⟨rfl, rfl⟩) ?_
  refine kcall_of cloneR_spec ?_
  rintro v w68 ⟨⟨a2, n2, c2, rfl⟩, h68⟩
  refine kbld_of (cs := [.slice a1 L.length c1, .slice a2 n2 c2]) rfl ?_
  have hz64 := h64.size
  have hz60 := h60.size
  have hz68 := h68.size
  refine kst_of (vs := [.slice a1 L.length c1, .slice a2 n2 c2]) ((h64.trans h68).get hb60 (fun h => h)) rfl rfl rfl (by simp) (by simp) fun w70 h70 hs70 hb70 => ?_
  have m70 : Same wd w70 := (h60.trans (h64.trans h68)).trans' (h70.mono fun k _ e => .inr (by omega))
  have hs70 : SlIs w70 a1 L.length 7 (L.flatMap Comp.cells) := (hs64.same h68).mod h70 fun k f e hk => by have := hf64 k ⟨f, L.length, c1, by rw [e]⟩; omega
  exact fin w70 a1 c1 _ _ _ _ m70 hs70 ha1 hb70
end
section
attribute [local irreducible] kO kB kStr kInt kN kG kIf kfld kld kldN kst knew kmap kbld kbldS kext kcnv klenStr klen kcap kprt kprtN kbool kint kstr keq kun ksl kix kiv kta kmk kmm ksem ksemU kextf kcallV kcallM kcall kL
theorem Pair.new {c : WC} {w0 : World} {o : OC} {fx : Nat → Prop} {w w' : World} {S : SM} {t : Nat} {B : BdM} {l : List OrdM} {gv dr : Nat} (h0 : 0 < o.L.length) (hW : WdAt c w0 fx w S t B) (m : Same w w') (hO : OAt o (fun k => w.heap.size ≤ k) w' l gv dr) : Pair c w0 o fx w' S t B l gv dr := by
 refine ⟨⟨_, _, hW.ext m, hO.cut h0, fun k hk => ⟨.inr hk, fun hx => ?_, fun e => ?_⟩, fun k hk => .inl hk⟩, h0⟩
 ·have := (hW.A.lt hx).2; omega
 ·have := (hW.A.lt (hW.fm k e)).2; omega
theorem Pair.orderX {c : WC} {w0 : World} {o : OC} {X fx U : Nat → Prop} {w w' : World} {S : SM} {t : Nat} {B : BdM} {l' : List OrdM} {gv' dr' : Nat} (h0 : 0 < o.L.length) (hW : WdAt c w0 fx w S t B) (hU : ∀ k, U k → fx k ∧ ¬ X k ∧ ¬ c.mine k) (hX : ∀ k, X k → fx k)
  (hO : OAt o U w' l' gv' dr') (m : Mod U w w') : Pair c w0 o (fun k => X k ∨ (w.heap.size ≤ k ∧ k < w'.heap.size)) w' S t B l' gv' dr' ∧ Mod (fun k => w0.heap.size ≤ k ∧ ¬ X k) w w' := by
 refine ⟨⟨⟨_, _, hW.other m (fun k hk => ⟨(hU k hk).1, (hU k hk).2.2⟩), hO, fun k hk => ⟨.inl (hU k hk).1, fun hx => ?_, (hU k hk).2.2⟩, fun k hk => ?_⟩, h0⟩, m.mono fun k _ hk => ⟨(hW.A.lt (hU k hk).1).1, (hU k hk).2.1⟩⟩
 ·rcases hx with hx | hx
  ·exact (hU k hk).2.1 hx
  ·have := (hW.A.lt (hU k hk).1).2; omega
 ·rcases hk with hk | hk
  ·exact .inl (hX k hk)
  ·exact .inr hk
theorem pAdd_bad {pr : Nat → Prop} {Sa : Nat → Addr} {c : WC} {w0 : World} (hL : LaidP pr Sa w0) (h1 : pr 1) {o : OC} {X : Nat → Prop} {w : World} {S : SM} {t : Nat} {B : BdM} {l : List OrdM} {gv dr : Nat} (h : Pair c w0 o X w S t B l gv dr) (x : OrdM) (hx : x.ok) (hb : ¬ x.fit o.L.length) :
  Meets Tryz.prog 24 #[.pointer (some ⟨o.bo, 0, none⟩), x.val] w fun v w' => ErrX Sa 1 w.heap.size v w' ∧ Same w w' := by
 have hs := h.same0
 obtain ⟨⟨fx, U, hW, hO, hU, hX⟩, h0⟩ := h
 exact oAdd_bad (hL.same hs) h1 hO x hx hb
theorem pAdd_full {pr : Nat → Prop} {Sa : Nat → Addr} {c : WC} {w0 : World} (hL : LaidP pr Sa w0) (h6 : pr 6) {o : OC} {X : Nat → Prop} {w : World} {S : SM} {t : Nat} {B : BdM} {l : List OrdM} {gv dr : Nat} (h : Pair c w0 o X w S t B l gv dr) (x : OrdM) (hx : x.ok) (hb : x.fit o.L.length) (hf : o.most ≤ gv) (hdr : dr ≤ 1000000) :
  Meets Tryz.prog 24 #[.pointer (some ⟨o.bo, 0, none⟩), x.val] w fun v w' => ErrX Sa 6 w.heap.size v w' ∧ Pair c w0 o (fun k => X k ∨ (w.heap.size ≤ k ∧ k < w'.heap.size)) w' S t B l gv (dr + 1) ∧ Mod (fun k => w0.heap.size ≤ k ∧ ¬ X k) w w' := by
 have hs := h.same0
 obtain ⟨⟨fx, U, hW, hO, hU, hX⟩, h0⟩ := h
 refine (oAdd_full hL h6 hs (fun k hk => (hW.A.lt (hU k hk).1).1) hO x hx hb hf hdr).mono ?_
 rintro v w' ⟨hE, hO', m⟩
 exact ⟨hE, Pair.orderX h0 hW hU hX hO' m⟩
theorem pAdd_ok {c : WC} {w0 : World} {o : OC} {X : Nat → Prop} {w : World} {S : SM} {t : Nat} {B : BdM} {l : List OrdM} {gv dr : Nat} (h : Pair c w0 o X w S t B l gv dr) (x : OrdM) (hx : x.ok) (hb : x.fit o.L.length) (hf : gv < o.most) (hmo : o.most ≤ 1000000) (hln : l.length ≤ 1000000) :
  Meets Tryz.prog 24 #[.pointer (some ⟨o.bo, 0, none⟩), x.val] w fun v w' => v = .nilIface ∧ Pair c w0 o X w' S t B (l ++ [x]) (gv + 1) dr ∧ Mod (fun k => w0.heap.size ≤ k ∧ ¬ X k) w w' := by
 obtain ⟨⟨fx, U, hW, hO, hU, hX⟩, h0⟩ := h
 refine (oAdd_ok hO x hx hb hf hmo hln h0).mono ?_
 rintro v w' ⟨rfl, hO', m⟩
 exact ⟨rfl, Pair.order h0 hW hU hX hO' m⟩
theorem pList {c : WC} {w0 : World} {o : OC} {X : Nat → Prop} {w : World} {S : SM} {t : Nat} {B : BdM} {l : List OrdM} {gv dr : Nat} (h : Pair c w0 o X w S t B l gv dr) (hn : l.length ≤ 1000000) :
  Meets Tryz.prog 30 #[.pointer (some ⟨o.bo, 0, none⟩)] w fun v w' => (∃ a' c', v = .slice a' l.length c' ∧ SlIs w' a' l.length 4 (l.flatMap OrdM.cells)) ∧ Same w w' := by
 obtain ⟨⟨fx, U, hW, hO, hU, hX⟩, h0⟩ := h
 exact oList hO hn
theorem pGiven {c : WC} {w0 : World} {o : OC} {X : Nat → Prop} {w : World} {S : SM} {t : Nat} {B : BdM} {l : List OrdM} {gv dr : Nat} (h : Pair c w0 o X w S t B l gv dr) :
  Meets Tryz.prog 28 #[.pointer (some ⟨o.bo, 0, none⟩)] w fun v w' => v = natV gv ∧ w' = w := by
 obtain ⟨⟨fx, U, hW, hO, hU, hX⟩, h0⟩ := h
 exact oGiven hO
theorem pDropped {c : WC} {w0 : World} {o : OC} {X : Nat → Prop} {w : World} {S : SM} {t : Nat} {B : BdM} {l : List OrdM} {gv dr : Nat} (h : Pair c w0 o X w S t B l gv dr) :
  Meets Tryz.prog 29 #[.pointer (some ⟨o.bo, 0, none⟩)] w fun v w' => v = natV dr ∧ w' = w := by
 obtain ⟨⟨fx, U, hW, hO, hU, hX⟩, h0⟩ := h
 exact oDropped hO
theorem pSpawn0 {pr : Nat → Prop} {Sa : Nat → Addr} {c : WC} {w0 : World} (hL : LaidP pr Sa w0) (h6 : pr 6) (hD : DeAt w0) {o : OC} {X : Nat → Prop} {w : World} {S : SM} {t : Nat} {B : BdM} {l : List OrdM} {gv dr : Nat} (h : Pair c w0 o X w S t B l gv dr) (ht : t ≤ 10000) (hnx : B.nx ≤ 1000000) (hlt : (viewS S B).length < S.gens.length) :
  Meets Tryz.prog 31 #[.pointer (some ⟨c.bw, 0, none⟩), .slice none 0 0] w fun v w' => v = .tuple #[natV B.nx, .nilIface] ∧ ∃ S' B', viewS S' B' = viewS S B ++ [(B.nx, [])] ∧ B'.nx = B.nx + 1 ∧ S'.gens.length = S.gens.length ∧ Pair c w0 o X w' S' (t + 1) B' l gv dr ∧ Mod (fun k => w0.heap.size ≤ k ∧ ¬ X k) w w' := by
 obtain ⟨⟨fx, U, hW, hO, hU, hX⟩, h0⟩ := h
 refine (wSpawn_ok (P := []) (a := none) (cp := 0) hL h6 hD hW ht hnx (SlIs.nil _ _ _) (fun k f e => by cases e) (by simp) (fun q hq => by cases hq) List.nodup_nil List.Pairwise.nil hlt).mono ?_
 rintro v w' ⟨rfl, S', B', hW', hg, hm, hv, hn⟩
 exact ⟨rfl, S', B', hv, hn, hg, Pair.act h0 hO hU hX hW' hm⟩
theorem view_find {S : SM} {B : BdM} {x : Int} {z : Nat × List Part} (h : findV (viewS S B) x = some z) : ∃ y, B.l.find? (fun y => decide (((y.1 : Nat) : Int) = x)) = some y ∧ z = (y.1, partsOf S y.2.i.toNat) := by
 rw [findV_view] at h
 cases hf : B.l.find? (fun y => decide (((y.1 : Nat) : Int) = x)) with
 | none => rw [hf] at h; cases h
 | some y => rw [hf] at h; exact ⟨y, rfl, by cases h; rfl⟩
theorem wGet_ok {c : WC} {w0 : World} {fx : Nat → Prop} {w : World} {S : SM} {t : Nat} {B : BdM} (h : WdAt c w0 fx w S t B) {x : Int} {n : Nat} {y : Nat × EK} (hf : B.l.find? (fun z => decide (((z.1 : Nat) : Int) = x)) = some y) {q : Part} (hq : q ∈ partsOf S y.2.i.toNat) (hqc : q.comp = (n : Int)) :
  Meets Tryz.prog 71 #[.pointer (some ⟨c.bw, 0, none⟩), .int .i64 x, .int .i64 n] w fun v w' => v = .tuple #[.agg q.cells.toArray, .nilIface] ∧ Same w w' := by
 have hym := List.mem_of_find?_eq_some hf
 obtain ⟨i, hyi, hg⟩ := h.link.live y hym
 rw [hyi, Int.toNat_natCast] at hq
 refine f71_ok ?_
 unfold f71
 refine knew_of fun w2 h2 hs2 hb2 => ?_
 refine kcall_of (wEntity_ok (h.loc h2) hf) ?_
 rintro v w4 ⟨rfl, h4⟩
 unfold EK.v entV
 rw [hyi]
 refine kext_at rfl ?_
 refine kext_at rfl ?_
 refine knew_of fun w8 h8 hs8 hb8 => ?_
 refine kst_of (vs := [.int .i64 i, .int .i64 y.2.g]) hb8 rfl rfl rfl (by simp) (by simp) fun w9 h9 hs9 hb9 => ?_
 have hb9 : blk w9 w4.heap.size = some (.cells #[.int .i64 i, .int .i64 y.2.g] 37) := hb9
 have m9 : Same w4 w9 := h8.trans' (h9.mono fun k _ e => .inr (by omega))
 rw [keq_nil_nil' ifErr]
 refine kB_at ?_
 refine kIf_F rfl ?_
 unfold f71_0
 have md : Same w9 w9.drew := (Mod.refl (fun _ => False) _).drew
 have m29 : Same w2 w9.drew := (h4.trans m9).trans md
 have hd := h.loc (h2.trans m29)
 have hbd := md.get hb9 (fun h => h)
 have hb2d := m29.get hb2 (fun h => h)
 have hz2 := m29.size
 generalize w9.drew = wd at *
 have key : ∀ {w1 : World}, Same wd w1 → blk w1 c.bw = some (.cells c.cells 150) := fun m => m.get hd.here (fun h => h)
 have tail : ∀ (w1 : World) (bp : Nat), Same wd w1 → bp ≠ w.heap.size → blk w1 bp = some (.cells q.cells.toArray 47) → f71_1 (.pointer (some ⟨w.heap.size, 0, none⟩)) .nilIface (.pointer (some ⟨bp, 0, none⟩)) (fun v w' => v = .tuple #[.agg q.cells.toArray, .nilIface] ∧ Same w w') w1 := by
  intro w1 bp m hne hbp
  unfold f71_1
  rw [keq_nil_nil' ifErr]
  refine kB_at ?_
  refine kIf_F rfl ?_
  unfold f71_2
  refine kldN_at (cs := q.cells) hbp rfl (by omega) ?_
  refine kst_of (vs := q.cells) (m.get hb2d (fun h => h)) rfl rfl rfl (by simp) (by simp [Part.cells]) fun w33 h33 hs33 hb33 => ?_
  have hb33 : blk w33 w.heap.size = some (.cells q.cells.toArray 47) := hb33
  refine kldN_at (cs := q.cells) hb33 rfl (by omega) ?_
  exact ⟨rfl, ((h2.trans m29).trans m).trans' (h33.mono fun k _ e => .inr (by omega))⟩
 obtain ⟨o, p, U, C, hb, hU, hfx⟩ := hd.A
 have hget : ∀ w1, Same wd w1 → Meets Tryz.prog 37 #[.pointer (some ⟨c.bs, 0, none⟩), .agg #[.int .i64 i, .int .i64 y.2.g], .int .i64 n] w1 fun v w' => v = .tuple #[.agg q.cells.toArray, .nilIface] ∧ Same w1 w' := by
  intro w1 m
  have := get_at (C.sp.same m) C.gs hg hq hqc
  rw [ptrV, entV] at this
  exact this
 refine ⟨?_, ?_⟩
 ·refine kN_at ?_
  refine kfld_of ?_
  refine kld_of (v := .pointer (some ⟨c.bs, 0, none⟩)) hd.here rfl ?_
  refine kG_of rfl ?_
  refine kldN_at (cs := [.int .i64 i, .int .i64 y.2.g]) hbd rfl (by omega) ?_
  refine kG_of rfl ?_
  refine kcall_of (hget _ (Mod.refl _ _)) ?_
  rintro v w19 ⟨rfl, h19⟩
  refine knew_of fun w21 h21 hs21 hb21 => ?_
  refine kG_of (kldN_at (cs := [.int .i64 i, .int .i64 y.2.g]) ((h19.trans h21).get hbd (fun h => h)) rfl (by omega) ⟨rfl, rfl⟩) ?_
  refine kG_of (kld_of (v := .pointer (some ⟨c.bs, 0, none⟩)) (key (h19.trans h21)) rfl ⟨rfl, rfl⟩) ?_
  refine kext_at rfl ?_
  refine kst_of (vs := q.cells) hb21 rfl rfl rfl (by simp) (by simp [Part.cells]) fun w23 h23 hs23 hb23 => ?_
  have hb23 : blk w23 w19.heap.size = some (.cells q.cells.toArray 47) := hb23
  refine kext_at rfl ?_
  have hz19 := h19.size
  exact tail _ _ (h19.trans (h21.trans' (h23.mono fun k _ e => .inr (by omega)))) (by omega) hb23
 ·refine knew_of fun w39 h39 hs39 hb39 => ?_
  refine kN_at ?_
  refine kfld_of ?_
  refine kld_of (v := .pointer (some ⟨c.bs, 0, none⟩)) (key h39) rfl ?_
  refine kG_of rfl ?_
  refine kG_of (kld_of (v := .pointer (some ⟨c.bs, 0, none⟩)) hd.here rfl ⟨rfl, rfl⟩) ?_
  refine kldN_at (cs := [.int .i64 i, .int .i64 y.2.g]) (h39.get hbd (fun h => h)) rfl (by omega) ?_
  refine kG_of rfl ?_
  refine kG_of (kldN_at (cs := [.int .i64 i, .int .i64 y.2.g]) hbd rfl (by omega) ⟨rfl, rfl⟩) ?_
  refine kcall_of (hget _ h39) ?_
  rintro v w44 ⟨rfl, h44⟩
  refine kext_at rfl ?_
  refine kst_of (vs := q.cells) (h44.get hb39 (fun h => h)) rfl rfl rfl (by simp) (by simp [Part.cells]) fun w46 h46 hs46 hb46 => ?_
  have hb46 : blk w46 wd.heap.size = some (.cells q.cells.toArray 47) := hb46
  refine kext_at rfl ?_
  exact tail _ _ ((h39.trans h44).trans' (h46.mono fun k _ e => .inr (by omega))) (by omega) hb46
end
section
attribute [local irreducible] kO kB kStr kInt kN kG kIf kfld kld kldN kst knew kmap kbld kbldS kext kcnv klenStr klen kcap kprt kprtN kbool kint kstr keq kun ksl kix kiv kta kmk kmm ksem ksemU kextf kcallV kcallM kcall kL
theorem cellsRep : Tryz.prog.cellsOf 75 = 2 := by kernel_rfl
theorem kl_rep {i g : Int} (h1 : I64 i) (h2 : I64 g) (d : Nat) : Tryz.prog.keyLits (d + 2) 75 [.int .i64 i, .int .i64 g] = some [.int .i64 i, .int .i64 g] := by
 unfold Program.keyLits
 simp only [Tryz.underlying75, cellsRep]
 rw [if_pos ⟨by rfl, by kernel_rfl⟩]
 simp [cellsInt, kl_int h1, kl_int h2]
theorem keyRep : Tryz.prog.keyTypeAt 10 75 = true := by kernel_rfl
theorem guardRep : Tryz.prog.eqGuardType Tryz.prog.depth 75 = false := by kernel_rfl
theorem formRep (i g : Int) : Value.formed Tryz.prog 75 (.agg #[.int .i64 i, .int .i64 g]) = true := by
 unfold Value.formed
 simp only [Tryz.underlying75, cellsRep]
 rfl
theorem keq_repE {i g j h : Int} (hi : I64 i) (hg : I64 g) (hj : I64 j) (hh : I64 h) {w : World} {K : Value → World → Prop} {cx cy : Bool} :
  keq Tryz.prog .eql 75 cx cy (.agg #[.int .i64 i, .int .i64 g]) (.agg #[.int .i64 j, .int .i64 h]) w K = K (.bool (decide (i = j ∧ g = h))) w := by
 obtain ⟨r, hr, hiff⟩ := run_equalIn_deep (P := Tryz.prog) 9990 10 75 keyRep w 2 2 (.agg #[.int .i64 i, .int .i64 g]) (.agg #[.int .i64 j, .int .i64 h]) _ _ (formRep i g) (formRep j h) (kl_rep hi hg 0) (kl_rep hj hh 0)
 have hr2 : r = decide (i = j ∧ g = h) := by
  rw [Bool.eq_iff_iff, hiff, decide_eq_true_eq]
  simp
 rw [hr2] at hr
 simp only [keq, eqW, semV, Sem.run_bind, run_eqGuard_agg w .eql 75 _ _ #[.int .i64 i, .int .i64 g] #[.int .i64 j, .int .i64 h] guardRep, Result.andThen_ok, run_eql_struct]
 rw [show (10000 : Nat) = 9990 + 10 from rfl, hr]
 rfl
def arrV (a b c d : Int) : Value := .agg #[.int .i64 a, .int .i64 b, .int .i64 c, .int .i64 d]
theorem keyArr4 : Tryz.prog.keyTypeAt 10 45 = true := by kernel_rfl
theorem guardArr4 : Tryz.prog.eqGuardType Tryz.prog.depth 45 = false := by kernel_rfl
theorem formArr4 (a b c d : Int) : Value.formed Tryz.prog 45 (arrV a b c d) = true := by
 unfold Value.formed arrV
 simp only [Tryz.underlying45, cellsArr]
 rfl
theorem keq_arr4 {a b c d a' b' c' d' : Int} (h1 : I64 a) (h2 : I64 b) (h3 : I64 c) (h4 : I64 d) (k1 : I64 a') (k2 : I64 b') (k3 : I64 c') (k4 : I64 d') {w : World} {K : Value → World → Prop} {cx cy : Bool} :
  keq Tryz.prog .eql 45 cx cy (arrV a b c d) (arrV a' b' c' d') w K = K (.bool (decide (a = a' ∧ b = b' ∧ c = c' ∧ d = d'))) w := by
 obtain ⟨r, hr, hiff⟩ := run_equalIn_deep (P := Tryz.prog) 9990 10 45 keyArr4 w 2 2 (arrV a b c d) (arrV a' b' c' d') _ _ (formArr4 a b c d) (formArr4 a' b' c' d') (kl_arr h1 h2 h3 h4 0) (kl_arr k1 k2 k3 k4 0)
 have hr2 : r = decide (a = a' ∧ b = b' ∧ c = c' ∧ d = d') := by
  rw [Bool.eq_iff_iff, hiff, decide_eq_true_eq]
  simp
 rw [hr2] at hr
 unfold arrV at hr ⊢
 simp only [keq, eqW, semV, Sem.run_bind, run_eqGuard_agg w .eql 45 _ _ #[.int .i64 a, .int .i64 b, .int .i64 c, .int .i64 d] #[.int .i64 a', .int .i64 b', .int .i64 c', .int .i64 d'] guardArr4, Result.andThen_ok, run_eql_struct]
 rw [show (10000 : Nat) = 9990 + 10 from rfl, hr]
 rfl
theorem keq_arr4' {a b c d a' b' c' d' : Int} (h1 : I64 a) (h2 : I64 b) (h3 : I64 c) (h4 : I64 d) (k1 : I64 a') (k2 : I64 b') (k3 : I64 c') (k4 : I64 d') {w : World} {K : Value → World → Prop} {cx cy : Bool} :
  keq Tryz.prog .eql 45 cx cy (.agg #[.int .i64 a, .int .i64 b, .int .i64 c, .int .i64 d]) (.agg #[.int .i64 a', .int .i64 b', .int .i64 c', .int .i64 d']) w K = K (.bool (decide (a = a' ∧ b = b' ∧ c = c' ∧ d = d'))) w :=
 keq_arr4 h1 h2 h3 h4 k1 k2 k3 k4
theorem awl : flushF smallC 4 0 [⟨1, 0, 1, 0⟩, ⟨2, 1, 0, 0⟩, ⟨2, 1, 0, 0⟩] (([(1, [])], 2), 0, 0) = (([(2, [⟨0, 4, 5, 0, 0, 0⟩])], 3), 2, 1) := by kernel_rfl
theorem newS_view (L : List Comp) (most : Nat) : viewS (newS L most) ⟨[], 1⟩ = [] := rfl
theorem newS_len (L : List Comp) (most : Nat) : (newS L most).gens.length = most := by simp [newS, newS0, layS]
theorem smallC_len : smallC.length = 3 := rfl
theorem awake15_spec {pr : Nat → Prop} {Sa : Nat → Addr} {w : World} (hD : DeAt w) (hL : LaidP pr Sa w) (h1 : pr 1) (h6 : pr 6) (h7 : pr 7) (h9 : pr 9) (h17 : pr 17) :
  Meets Tryz.prog 20 #[] w fun v w' => v = .bool true ∧ Same w w' := by
 refine f20_ok ?_
 unfold f20
 refine kcall_of (small15_spec w) ?_
 rintro v w2 ⟨a2, c2, rfl, hs2, h2⟩
 refine kcall_of (wNew (hD.same h2) hs2 smallC_good (by rw [smallC_len]; omega) (most := 4) (by omega) 1) ?_
 rintro v w4 ⟨c, rfl, hcL, hcf, _, _, _, hW4⟩
 have hs24 := hW4.A.same0
 refine kext_at rfl ?_
 refine kext_at rfl ?_
 refine kcall_of (small15_spec w4) ?_
 rintro v w8 ⟨a8, c8, rfl, hs8, h8⟩
 refine kcall_of (oNew hs8 smallC_good (by rw [smallC_len]; omega) (most := 3) (by omega)) ?_
 rintro v w10 ⟨o, rfl, hoL, hom, hO10, h10⟩
 refine kext_at rfl ?_
 refine kext_at rfl ?_
 have h0 : 0 < o.L.length := by rw [hoL, smallC_len]; omega
 have P10 := (Pair.new h0 (hW4.loc h8) h10 hO10).less (X' := fun _ => False) fun k hk => hk.elim
 have hL2 := hL.same h2
 have hD2 := hD.same h2
 rw [keq_ptr_nil ptWor]
 refine kB_at ?_
 refine kIf_T rfl ?_
 rw [keq_ptr_nil ptOrd]
 refine kB_at ?_
 refine kIf_T rfl ?_
 rw [keq_nil_nil' ifErr]
 refine kB_at ?_
 refine kIf_T rfl ?_
 rw [keq_nil_nil' ifErr]
 unfold f20_0
 refine kB_at ?_
 refine kIf_F rfl ?_
 unfold f20_1
 refine kcall_of (pSpawn0 hL2 h6 hD2 P10 (by omega) (by show (1 : Nat) ≤ _; omega) (by rw [newS_view, newS_len]; show 0 < 4; omega)) ?_
 rintro v w25 ⟨rfl, S1, B1, hv1, hn1, hg1, P25, m25⟩
 rw [newS_len] at hg1
 rw [newS_view] at hv1
 have fit : ∀ x : OrdM, x.fit 3 → x.fit o.L.length := fun x hx => by rw [hoL]; exact hx
 refine kbld_of (cs := (⟨1, 0, 1, 0⟩ : OrdM).cells) rfl ?_
 refine kcall_of (pAdd_ok P25 ⟨1, 0, 1, 0⟩ (by unfold OrdM.ok I64; simp) (fit _ (by unfold OrdM.fit; simp)) (by rw [hom]; omega) (by rw [hom]; omega) (by simp)) ?_
 rintro v w28 ⟨rfl, P28, m28⟩
 refine kbld_of (cs := (⟨2, 1, 0, 0⟩ : OrdM).cells) rfl ?_
 refine kcall_of (pAdd_ok P28 ⟨2, 1, 0, 0⟩ (by unfold OrdM.ok I64; simp) (fit _ (by unfold OrdM.fit; simp)) (by rw [hom]; omega) (by rw [hom]; omega) (by simp)) ?_
 rintro v w31 ⟨rfl, P31, m31⟩
 refine kbld_of (cs := (⟨2, 1, 0, 0⟩ : OrdM).cells) rfl ?_
 refine kcall_of (pAdd_ok P31 ⟨2, 1, 0, 0⟩ (by unfold OrdM.ok I64; simp) (fit _ (by unfold OrdM.fit; simp)) (by rw [hom]; omega) (by rw [hom]; omega) (by simp)) ?_
 rintro v w34 ⟨rfl, P34, m34⟩
 refine kbld_of (cs := (⟨1, 0, 0, 0⟩ : OrdM).cells) rfl ?_
 refine kcall_of (pAdd_full hL2 h6 P34 ⟨1, 0, 0, 0⟩ (by unfold OrdM.ok I64; simp) (fit _ (by unfold OrdM.fit; simp)) (by rw [hom]; omega) (by omega)) ?_
 rintro v36 w37 ⟨hE37, P37, m37⟩
 refine kcall_of (oFlush hL2 h6 h7 h9 h17 hD2 (by rw [hoL, hcL]) P37 (by show 0 + 1 + 3 ≤ _; omega) (by rw [hn1]; show 1 + 1 + 3 ≤ _; omega)) ?_
 rintro v w39 ⟨S2, B2, d, f, rfl, _, hfl, hg2, _, P39, m39⟩
 have hn1' : B1.nx = 2 := hn1
 have hv1' : viewS S1 B1 = [(1, [])] := hv1
 rw [hg1, hcf, hcL, hv1', hn1'] at hfl
 have hfl := awl.symm.trans hfl
 have hv2 : viewS S2 B2 = [(2, [⟨0, 4, 5, 0, 0, 0⟩])] := (congrArg (fun z => z.1.1) hfl).symm
 have hd : 2 = d := congrArg (fun z => z.2.1) hfl
 have hf : 1 = f := congrArg (fun z => z.2.2) hfl
 subst hd hf
 have hE39 : ErrX Sa 6 w34.heap.size v36 w39 := hE37.mod m39 fun b hlo hlt hk => hk.2 (.inr ⟨hlo, hlt⟩)
 refine kext_at rfl ?_
 refine kext_at rfl ?_
 refine knew_of fun w43 h43 hs43 hb43 => ?_
 refine kst_of (vs := [.int .i64 2, .int .i64 1]) hb43 rfl rfl rfl (by simp) (by simp) fun w44 h44 hs44 hb44 => ?_
 have hb44 : blk w44 w39.heap.size = some (.cells #[.int .i64 2, .int .i64 1] 75) := hb44
 have m44 : Same w39 w44 := h43.trans' (h44.mono fun k _ e => .inr (by omega))
 have P44 := P39.loc m44
 obtain ⟨y, hfy, hye⟩ := view_find (S := S2) (B := B2) (x := 2) (z := (2, [⟨0, 4, 5, 0, 0, 0⟩])) (by rw [hv2]; rfl)
 have hpy : partsOf S2 y.2.i.toNat = [⟨0, 4, 5, 0, 0, 0⟩] := (congrArg Prod.snd hye).symm
 obtain ⟨⟨fx, U, hW44, _, _, _⟩, _⟩ := id P44
 refine kcall_of (wGet_ok hW44 hfy (n := 0) (q := ⟨0, 4, 5, 0, 0, 0⟩) (by rw [hpy]; exact List.mem_singleton.2 rfl) rfl) ?_
 rintro v w46 ⟨rfl, h46⟩
 refine kext_at rfl ?_
 refine kext_at rfl ?_
 refine knew_of fun w50 h50 hs50 hb50 => ?_
 refine kst_of (vs := (⟨0, 4, 5, 0, 0, 0⟩ : Part).cells) hb50 rfl rfl rfl (by simp) (by simp [Part.cells]) fun w51 h51 hs51 hb51 => ?_
 have hb51 : blk w51 w46.heap.size = some (.cells (⟨0, 4, 5, 0, 0, 0⟩ : Part).cells.toArray 47) := hb51
 have m51 : Same w46 w51 := h50.trans' (h51.mono fun k _ e => .inr (by omega))
 have md : Same w51 w51.drew := (Mod.refl (fun _ => False) _).drew
 have mall := (h46.trans m51).trans md
 have Pd := P44.loc mall
 have hEd := hE39.same (m44.trans mall)
 have hb44d := mall.get hb44 (fun h => h)
 have hb51d := md.get hb51 (fun h => h)
 have hLd := hL2.same Pd.same0
 have s0d := Pd.same0
 generalize w51.drew = wd at *
 refine kld_err hLd h6 rfl rfl ?_
 refine kG_of rfl ?_
 refine kcall_of (isX_spec hLd h6 h6 hEd) ?_
 rintro v w54 ⟨rfl, rfl⟩
 rw [decT rfl]
 refine kB_at ?_
 refine kIf_T rfl ?_
 refine kldN_at (cs := [.int .i64 2, .int .i64 1]) hb44d rfl (by omega) ?_
 refine kG_of rfl ?_
 refine kbld_of (cs := [.int .i64 2, .int .i64 1]) rfl ?_
 rw [keq_repE (by unfold I64; omega) (by unfold I64; omega) (by unfold I64; omega) (by unfold I64; omega), decT ⟨rfl, rfl⟩]
 refine kG_of rfl ?_
 refine kB_at ?_
 refine kIf_T rfl ?_
 rw [keq_nil_nil ifErr]
 refine kG_of rfl ?_
 refine kB_at ?_
 refine kIf_T rfl ?_
 rw [keq_nil_nil ifErr]
 refine kG_of rfl ?_
 refine kB_at ?_
 refine kIf_T rfl ?_
 refine kfld_of ?_
 refine kldN_at (cs := [.int .i64 4, .int .i64 5, .int .i64 0, .int .i64 0]) hb51d rfl (by omega) ?_
 refine kG_of rfl ?_
 refine kbld_of (cs := [.int .i64 4, .int .i64 5, .int .i64 0, .int .i64 0]) rfl ?_
 rw [keq_arr4' (by unfold I64; omega) (by unfold I64; omega) (by unfold I64; omega) (by unfold I64; omega) (by unfold I64; omega) (by unfold I64; omega) (by unfold I64; omega) (by unfold I64; omega), decT ⟨rfl, rfl, rfl, rfl⟩]
 refine kG_of rfl ?_
 refine kB_at ?_
 refine kIf_T rfl ?_
 refine kcall_of (pDropped Pd) ?_
 rintro v w74 ⟨rfl, rfl⟩
 refine eql_at ?_
 rw [decT (by rfl)]
 refine kB_at ?_
 refine kIf_T rfl ?_
 refine kcall_of (pGiven Pd) ?_
 rintro v w78 ⟨rfl, rfl⟩
 refine eql_at ?_
 rw [decT (by rfl)]
 refine kB_at ?_
 refine kIf_T rfl ?_
 refine kcall_of (pList Pd (by simp)) ?_
 rintro v w82 ⟨⟨al, cl, rfl, _⟩, h82⟩
 refine klen_at ?_
 refine eql_at ?_
 rw [decT (by rfl)]
 refine kB_at ?_
 refine kIf_T rfl ?_
 refine kbld_of (cs := (⟨0, 0, 0, 0⟩ : OrdM).cells) rfl ?_
 refine kcall_of (pAdd_bad hL2 h1 (Pd.loc h82) ⟨0, 0, 0, 0⟩ (by unfold OrdM.ok I64; simp) (by unfold OrdM.fit; simp)) ?_
 rintro v w89 ⟨hE89, h89⟩
 have hL89 := hLd.same (h82.trans h89)
 refine kld_err hL89 h1 rfl rfl ?_
 refine kG_of rfl ?_
 refine kG_of (kld_err (hLd.same h82) h1 rfl rfl ⟨rfl, rfl⟩) ?_
 refine kcall_of (isX_spec hL89 h1 h1 hE89) ?_
 rintro v w92 ⟨rfl, rfl⟩
 exact ⟨by rw [decT rfl], h2.trans (s0d.trans (h82.trans h89))⟩
end
section
attribute [local irreducible] kO kB kStr kInt kN kG kIf kfld kld kldN kst knew kmap kbld kbldS kext kcnv klenStr klen kcap kprt kprtN kbool kint kstr keq kun ksl kix kiv kta kmk kmm ksem ksemU kextf kcallV kcallM kcall kL
structure ActO where
 kind : Int
 x : OrdM
def ActO.cells (a : ActO) : List Value := .int .i64 a.kind :: a.x.cells
end
end Go.Proofs.YtmidldeaapdjoaaGreatDoor
namespace Go.Proofs.YtmidldeaapdjoaaGreatDoor
open Go Go.Ev Go.RowKit Go.ChangeShapes Go.WideShapes Go.ChangeAt
section
namespace ST
theorem cU8 : Tryz.prog.cellsOf 5 = 1 := by kernel_rfl
theorem cMask : Tryz.prog.cellsOf 43 = 1 := by kernel_rfl
theorem gDe : Tryz.prog.globalNamed "math/bits.deBruijn32tab" = some 9 := by kernel_rfl
theorem tDe : (Tryz.prog.globals[9]?).map (·.type) = some 295 := by kernel_rfl
theorem cDe : Tryz.prog.cellsOf 295 = 32 := by kernel_rfl
theorem deTab_lits : Rows.laid_math_bits_deBruijn32tab (H := Unit) = .agg (deTab.map fun n : Nat => .lit (.int .u8 (n : Int))) := by rfl
theorem deAt_of {W : World} (h : ∃ g t cs f p, Tryz.prog.globalNamed "math/bits.deBruijn32tab" = some g ∧ (Tryz.prog.globals[g]?).map (·.type) = some t ∧ W.var? Tryz.prog "math/bits.deBruijn32tab" = some cs ∧ DataW.trod (fun _ => ()) Tryz.prog W 0 (fun _ => true) false f t cs.toList = some (Rows.laid_math_bits_deBruijn32tab, p)) : DeAt W := by
 obtain ⟨g0, t0, cs0, f0, p0, hg0, ht0, hv0, hd0⟩ := h
 obtain rfl := Option.some.inj (gDe.symm.trans hg0)
 obtain rfl := Option.some.inj (tDe.symm.trans ht0)
 obtain ⟨xs, m, _, hx, hl, hxl, hel⟩ := DataW.trod_array Tryz.underlying295 hd0
 rw [cDe] at hl
 rw [deTab_lits] at hx
 simp only [Prod.mk.injEq, DataW.agg.injEq] at hx
 obtain ⟨t, f, hb⟩ := blk_of_var gDe hv0
 refine ⟨t, f, ?_⟩
 rw [hb]
 congr 2
 apply Array.ext'
 apply List.ext_getElem?
 intro i
 simp only [List.getElem?_map]
 by_cases hi : i < 32
 ·have h1 := hel i hi
  rw [cU8, Nat.mul_one, List.getElem?_eq_getElem (show i < xs.length by omega)] at h1
  obtain ⟨n, e1, e2, _⟩ := DataW.trod_int Tryz.underlying5 h1
  have h2 := congrArg (fun l : List (DataW Unit) => l[i]?) hx.1
  simp only [List.getElem?_map, List.getElem?_eq_getElem (show i < xs.length by omega), Option.map_some] at h2
  have hdl : i < deTab.length := hi
  rw [List.getElem?_eq_getElem hdl, Option.map_some] at h2 ⊢
  rw [e2] at h2
  simp only [Option.some.injEq, DataW.lit.injEq, Lit.int.injEq] at h2
  have h3 : cs0.toList[i]? = some (.int .u8 n) := by
   have := congrArg (fun l : List Value => l[0]?) e1
   simpa [List.getElem?_take, List.getElem?_drop] using this
  rw [h3, ← h2.2]
 ·rw [List.getElem?_eq_none (by omega), List.getElem?_eq_none (show deTab.length ≤ i by show 32 ≤ i; omega)]; rfl
def ks : List Nat := [1, 2, 4, 6, 7, 8, 9, 10, 17]
theorem ks_at (k : Nat) (h : k ∈ ks) : Tryz.prog.globalNamed (errG k) = some (gErr k) ∧ (Tryz.prog.globals[gErr k]?).map (·.type) = some 27 := by
 simp only [ks, List.mem_cons, List.not_mem_nil, or_false] at h
 rcases h with rfl | rfl | rfl | rfl | rfl | rfl | rfl | rfl | rfl <;> exact ⟨by kernel_rfl, by kernel_rfl⟩
theorem laid_of {W : World} (h : laidMetH Tryz.prog Rows.ordersFewRow.laid W) : (∃ S, LaidP (· ∈ ks) S W) ∧ DeAt W :=
 ⟨laidP_ofG ks ((Rows.ordersFewRow.laid.drop 3).map sentOf) (by kernel_rfl) (by rfl) (by rfl) ks_at (by decide) h,
  deAt_of (laidD_of (by kernel_rfl) (fun x => x.1 == "math/bits.deBruijn32tab") _ _ (by rfl) h)⟩
theorem i64_of {n : Int} (h : (Lit.int .i64 n).wf = true) : I64 n := i64_wf h
theorem c3 : Tryz.prog.cellsOf 3 = 1 := by kernel_rfl
theorem cOrd : Tryz.prog.cellsOf 69 = 4 := by kernel_rfl
theorem ord_of {w : World} {n : Nat} {cs : List Value} (h : Rd Tryz.prog w (n + 2) 69 cs) : ∃ x : OrdM, x.ok ∧ x.cells = cs := by
 obtain ⟨hl, hf⟩ := rd_struct Tryz.underlying69 h
 rw [cOrd] at hl
 match cs, hl with
 | [a0, a1, a2, a3], _ =>
  simp only [RdF] at hf
  obtain ⟨h0, h1, h2, h3, _⟩ := hf
  simp only [c3, cMask] at h0 h1 h2 h3
  obtain ⟨i0, e0, g0⟩ := rd_int Tryz.underlying3 h0
  obtain ⟨i1, e1, g1⟩ := rd_int Tryz.underlying3 h1
  obtain ⟨i2, e2, g2⟩ := rd_int Tryz.underlying43 h2
  obtain ⟨i3, e3, g3⟩ := rd_int Tryz.underlying3 h3
  obtain ⟨u0, u1⟩ := u32_wf g2
  simp at e0 e1 e2 e3
  subst e0 e1 e2 e3
  refine ⟨⟨i0, i1, i2.toNat, i3⟩, ⟨i64_of g0, i64_of g1, by show i2.toNat < 4294967296; omega, i64_of g3⟩, ?_⟩
  show [Value.int .i64 i0, .int .i64 i1, .int .u32 (i2.toNat : Int), .int .i64 i3] = _
  rw [Int.toNat_of_nonneg u0]
theorem ords_of {W : World} {cs : List Value} (h : Rd Tryz.prog W 9 79 cs) : ∃ (a : Option Addr) (l : List OrdM) (c : Nat), cs = [.slice a l.length c] ∧ (∀ x ∈ l, x.ok) ∧ SlIs W a l.length 4 (l.flatMap OrdM.cells) := by
 obtain ⟨a, l, c, e, h1, _, _, h2⟩ := slIs_of_rd (F := OrdM.cells) (sz := 4) (ok := OrdM.ok) (fun _ => rfl) (by omega) Tryz.underlying79 cOrd (fun ec h => ord_of h) h
 exact ⟨a, l, c, e, h1, h2⟩
end ST
end
end Go.Proofs.YtmidldeaapdjoaaGreatDoor
namespace Go.Proofs.YtmidldeaapdjoaaGreatDoor
open Go Go.Ev
section
attribute [local irreducible] kO kB kStr kInt kN kG kIf kfld kld kldN kst knew kmap kbld kbldS kext kcnv klenStr klen kcap kprt kprtN kbool kint kstr keq kun ksl kix kiv kta kmk kmm ksem ksemU kextf kcallV kcallM kcall kL
theorem zeros_parts (n : Nat) : (Builtin.zeroCells #[.int .i64 0, .int .i64 0, .int .i64 0, .int .i64 0, .int .i64 0, .int .i64 0] n).toList = List.replicate (n * 6) (.int .i64 0) := by
 rw [List.eq_replicate_iff]
 constructor
 ·rw [Array.length_toList]
  exact size_zeroCells _ _
 ·intro b hb
  unfold Builtin.zeroCells at hb
  rw [Array.toList_map, List.mem_map] at hb
  obtain ⟨i, _, rfl⟩ := hb
  have : i % 6 < 6 := Nat.mod_lt _ (by omega)
  show (#[Value.int .i64 0, .int .i64 0, .int .i64 0, .int .i64 0, .int .i64 0, .int .i64 0] : Array Value)[i % 6]! = _
  have h : i % 6 = 0 ∨ i % 6 = 1 ∨ i % 6 = 2 ∨ i % 6 = 3 ∨ i % 6 = 4 ∨ i % 6 = 5 := by omega
  rcases h with h | h | h | h | h | h <;> rw [h] <;> rfl
theorem ksem_clearP {w : World} {ty : TypeId} {K : Value → World → Prop} {b o n cp : Nat} {arr : Array Value} {tt : TypeId} (hb : blk w b = some (.cells arr tt)) (hle : o + n * 6 ≤ arr.size)
  (h : ∀ w2 arr', Mod (fun k => k = b) w w2 → blk w2 b = some (.cells arr' tt) → arr'.size = arr.size → arr'.toList.take o = arr.toList.take o → K (.tuple #[]) w2) :
  ksem Tryz.prog (Builtin.clear_ #[40] ty #[.slice (some ⟨b, o, none⟩) n cp]) w K := by
 cases n with
 | zero =>
  have hr : (Builtin.clear_ #[40] ty #[.slice (some ⟨b, o, none⟩) 0 cp]).run Tryz.prog w = .ok (.tuple #[]) w := by
   simp only [Builtin.clear_]
   simp [run_underlying elPart, Result.andThen]
  rw [ksem_ok hr]
  exact h w arr (Mod.refl _ _) hb rfl rfl
 | succ n =>
  have hz : ∀ w, (zeroValue 47).run Tryz.prog w = .ok (.agg #[.int .i64 0, .int .i64 0, .int .i64 0, .int .i64 0, .int .i64 0, .int .i64 0]) w := fun w => run_zero' zPartA
  have hst := run_storeCells_cells (P := Tryz.prog) b o (List.replicate ((n + 1) * 6) (Value.int .i64 0)) 0 w
   (fun j hj => by
    rw [List.length_replicate] at hj
    rw [Nat.add_zero, cell_mk, hb, cellO_some]; simp; omega)
   (fun j hj => by simp [World.frozen?, show w.heap[b]? = _ from hb]) (by intro v hv; rw [(List.mem_replicate.1 hv).2]; rfl)
  have hr : (Builtin.clear_ #[40] ty #[.slice (some ⟨b, o, none⟩) (n + 1) cp]).run Tryz.prog w = .ok (.tuple #[]) (w.setCells b o (List.replicate ((n + 1) * 6) (Value.int .i64 0))) := by
   have hzc := zeros_parts (n + 1)
   simp only [Nat.add_zero] at hst
   simp only [Builtin.clear_]
   simp [run_underlying elPart, hz, hzc, hst, Result.andThen]
  rw [ksem_ok hr, setCells_blk _ _ _ _ hb]
  have hsl := setAll_list (List.replicate ((n + 1) * 6) (Value.int .i64 0)) arr o (by rw [List.length_replicate]; exact hle)
  refine h _ _ ((Mod.refl _ _).setBlk _ (.inl rfl)) (by rw [setBlk_heap, if_pos rfl, hb]; rfl) ?_ ?_
  ·rw [← Array.length_toList, hsl, ← Array.length_toList]
   simp
   rw [Array.size_eq_length_toList] at hle
   simp at hle
   omega
  ·rw [hsl, List.append_assoc, List.take_append_of_le_length (by simp; omega), List.take_take, Nat.min_self]
def Tells (v : Value) (w : World) (f : Nat) (caps : Array Value) (L : List Part) (del : Part → Bool) : Prop :=
 ∀ q ∈ L, ∀ w1, Mod (vblk v) w w1 → Meets Tryz.prog f (#[.agg q.cells.toArray] ++ caps) w1 fun r w2 => r = .bool (del q) ∧ Same w1 w2
theorem indexG_spec {v : Value} {w : World} {a : Option Addr} {L : List Part} {cp : Nat} (hs : SlIs w a L.length 6 (L.flatMap Part.cells)) {f : Nat} {caps : Array Value} {del : Part → Bool} (ht : Tells v w f caps L del) (hlen : L.length ≤ 1000000) :
  Meets Tryz.prog 115 #[.slice a L.length cp, .func (.func f) #[] caps] w fun r w' => ((∃ k, ∃ h : k < L.length, r = .int .i64 k ∧ del L[k] = true ∧ ∀ j (hj : j < L.length), j < k → del L[j] = false) ∨ (r = .int .i64 (-1) ∧ ∀ q ∈ L, del q = false)) ∧ Same w w' := by
 refine f115_ok ?_
 unfold f115
 refine klen_at ?_
 refine kL1_of L.length (fun j x wr => x = .int .i64 j ∧ (∀ i (hi : i < L.length), i < j → del L[i] = false) ∧ Same w wr) ⟨lI1_0 ⟨rfl, fun i hi h => by omega, Mod.refl _ _⟩, fun x wr hx => ?_⟩
 obtain ⟨j, hj, ⟨rfl, hbef, hm⟩, hJ⟩ := lI1_step hx
 unfold f115_0
 refine lss_at ?_
 refine kB_at ?_
 refine kIf_dec (fun hlt => ?_) (fun hge => ?_)
 ·have hlt : j < L.length := by omega
  unfold f115_1
  refine kixldN_of (F := Part.cells) (sz := 6) (fun _ => rfl) (by omega) (hs.same hm) hlt rfl ?_
  refine kcallC_of (ht L[j] (List.getElem_mem hlt) wr (Mod.of_same hm)) ?_
  rintro r w7 ⟨rfl, h7⟩
  refine kB_at ?_
  refine kIf_of (fun e => ?_) (fun e => ?_)
  ·exact ⟨.inl ⟨j, hlt, rfl, e, hbef⟩, hm.trans h7⟩
  ·unfold f115_2
   refine add_at (by omega) (by omega) ?_
   rw [cast_succ]
   refine hJ _ _ hlt ⟨rfl, fun i hi h => ?_, hm.trans h7⟩
   by_cases he : i = j
   ·subst he; exact e
   ·exact hbef i hi (by omega)
 ·have : j = L.length := by omega
  subst this
  unfold f115_3
  refine ⟨.inr ⟨rfl, fun q hq => ?_⟩, hm⟩
  obtain ⟨i, hi, rfl⟩ := List.mem_iff_getElem.1 hq
  exact hbef i hi hi
structure Kept2 (L M : List Part) (del : Part → Bool) (i j : Nat) : Prop where
 len : M.length = L.length
 ahead : M.take i = (L.take j).filter fun q => !del q
 rest : ∀ x, j ≤ x → M[x]? = L[x]?
 le : i < j
theorem Kept2.first {L : List Part} {del : Part → Bool} {k : Nat} (hk : k < L.length) (hd : del L[k] = true) (hb : ∀ j (hj : j < L.length), j < k → del L[j] = false) : Kept2 L L del k (k + 1) := by
 refine ⟨rfl, ?_, fun _ _ => rfl, by omega⟩
 rw [List.take_succ_eq_append_getElem hk, List.filter_append, List.filter_eq_self.2, List.filter_cons_of_neg (by simp [hd]), List.filter_nil, List.append_nil]
 intro q hq
 obtain ⟨i, hi, rfl⟩ := List.mem_iff_getElem.1 hq
 rw [List.length_take] at hi
 rw [List.getElem_take, hb i (by omega) (by omega)]
 rfl
theorem Kept2.keep {L M : List Part} {del : Part → Bool} {i j : Nat} (h : Kept2 L M del i j) (hj : j < L.length) (hd : del L[j] = false) : Kept2 L (M.set i L[j]) del (i + 1) (j + 1) := by
 have hle := h.le
 refine ⟨by rw [List.length_set]; exact h.len, ?_, fun x hx => ?_, by omega⟩
 ·have hi : i < (M.set i L[j]).length := by rw [List.length_set, h.len]; omega
  rw [List.take_succ_eq_append_getElem hi, List.getElem_set_self, List.take_set_of_le (Nat.le_refl i), h.ahead, List.take_succ_eq_append_getElem hj, List.filter_append, List.filter_cons_of_pos (by simp [hd]), List.filter_nil]
 ·rw [List.getElem?_set_ne (by omega)]
  exact h.rest x (by omega)
theorem Kept2.drop {L M : List Part} {del : Part → Bool} {i j : Nat} (h : Kept2 L M del i j) (hj : j < L.length) (hd : del L[j] = true) : Kept2 L M del i (j + 1) := by
 have hle := h.le
 refine ⟨h.len, ?_, fun x hx => h.rest x (by omega), by omega⟩
 rw [h.ahead, List.take_succ_eq_append_getElem hj, List.filter_append, List.filter_cons_of_neg (by simp [hd]), List.filter_nil, List.append_nil]
theorem deleteG_spec {w : World} {v : Value} {L : List Part} (hO : Own w v 6 (L.flatMap Part.cells)) {f : Nat} {caps : Array Value} {del : Part → Bool} (ht : Tells v w f caps L del) (hlen : L.length ≤ 1000000) :
  Meets Tryz.prog 63 #[v, .func (.func f) #[] caps] w fun v' w' => Own w' v' 6 ((L.filter fun q => !del q).flatMap Part.cells) ∧ Mod (vblk v) w w' ∧ ∀ b, vblk v' b → vblk v b := by
 obtain ⟨sa, sn, sc, rfl, hsl, _⟩ := hO.is
 have hfl := flat_len Part.cells 6 (fun _ => rfl) L
 have hsn : sn = L.length := by have h1 := hsl.1; omega
 subst hsn
 refine f63_ok ?_
 unfold f63
 refine kcall_of (indexG_spec hsl ht hlen) ?_
 rintro r w2 ⟨hr, h2⟩
 rcases hr with ⟨k, hk, rfl, hkd, hbef⟩ | ⟨rfl, hnone⟩
 rotate_left
 ·refine eql_at ?_
  rw [decT rfl]
  refine kB_at ?_
  refine kIf_T rfl ?_
  rw [List.filter_eq_self.2 fun q hq => by rw [hnone q hq]; rfl]
  exact ⟨hO.same h2, Mod.of_same h2, fun b hb => hb⟩
 refine eql_at ?_
 rw [decF (by omega)]
 refine kB_at ?_
 refine kIf_F rfl ?_
 unfold f63_0
 refine add_at (by omega) (by omega) ?_
 rw [cast_succ]
 obtain ⟨bv, cp, arr, t, e, hbv, s1, s2, s3⟩ := hO.viewF (F := Part.cells) (sz := 6) (fun _ => rfl) (by omega) (show 0 < L.length by omega)
 cases e
 have hmv : ∀ {w1 w2 : World}, Mod (fun k => k = bv) w1 w2 → Mod (vblk (.slice (some ⟨bv, 0, none⟩) L.length sc)) w1 w2 := fun h => h.mono fun k _ e => by subst e; exact ⟨0, _, _, rfl⟩
 refine kL2_of (L.length - (k + 1)) (fun u x y wr => y = .int .i64 ((k + 1 + u : Nat) : Int) ∧ k + 1 + u ≤ L.length ∧ ∃ (i : Nat) (M : List Part), x = .int .i64 (i : Int) ∧ i < L.length ∧ Kept2 L M del i (k + 1 + u) ∧ Own wr (.slice (some ⟨bv, 0, none⟩) L.length sc) 6 (M.flatMap Part.cells) ∧ Mod (fun k => k = bv) w wr) ⟨lI2_0 ⟨rfl, by omega, k, L, rfl, hk, Kept2.first hk hkd hbef, hO.same h2, Mod.of_same h2⟩, fun x y wr hx => ?_⟩
 obtain ⟨u, hu, ⟨rfl, hle, i, M, rfl, hil, hM, hOM, hm⟩, hJ⟩ := lI2_step hx
 have hMl := hM.len
 obtain ⟨bv', cp', arr', t', e', hbv', s1', s2', s3'⟩ := hOM.viewF (F := Part.cells) (sz := 6) (fun _ => rfl) (by omega) (show 0 < M.length by omega)
 rw [hMl] at e' s1' s2'
 cases e'
 unfold f63_1
 refine klen_at ?_
 refine lss_at ?_
 refine kB_at ?_
 refine kIf_dec (fun hlt => ?_) (fun hge => ?_)
 ·have hlt : k + 1 + u < L.length := by omega
  have hMj : M[k + 1 + u]'(by omega) = L[k + 1 + u] := by
   have := hM.rest (k + 1 + u) (Nat.le_refl _)
   rw [List.getElem?_eq_getElem (by omega), List.getElem?_eq_getElem hlt] at this
   exact Option.some.inj this
  have hsj := s3' (k + 1 + u) (by omega)
  rw [hMj] at hsj
  have hmem : L[k + 1 + u] ∈ L := List.getElem_mem hlt
  have hkeep := fun h => hM.keep hlt h
  have hdrop := fun h => hM.drop hlt h
  generalize hq : L[k + 1 + u] = q at *
  unfold f63_2
  rw [kix_slice]
  refine kG_of (by omega) ?_
  rw [add_mk, Nat.zero_add, Int.toNat_natCast]
  refine kldN_at hbv' hsj (by omega) ?_
  refine knew_of fun w11 h11 hs11 hb11 => ?_
  refine kst_of (vs := q.cells) hb11 rfl rfl rfl (by simp) (by simp [Part.cells]) fun w12 h12 hs12 hb12 => ?_
  have hb12 : blk w12 wr.heap.size = some (.cells q.cells.toArray 47) := hb12
  have m12 : Same wr w12 := h11.trans' (h12.mono fun k _ e => .inr (by omega))
  refine kldN_at (cs := q.cells) hb12 rfl (by omega) ?_
  refine kcallC_of (ht q hmem w12 (hmv (hm.trans (Mod.of_same m12)))) ?_
  rintro v w15 ⟨rfl, h15⟩
  have m15 := m12.trans h15
  refine not_at ?_
  refine kB_at ?_
  refine kIf_of (fun e => ?_) (fun e => ?_)
  ·have e : del q = false := by simpa using e
   have hb15 := h15.get hb12 (fun h => h)
   have hbv15 := m15.get hbv' (fun h => h)
   refine kldN_at (cs := q.cells) hb15 rfl (by omega) ?_
   rw [kix_slice]
   refine kG_of (by omega) ?_
   rw [add_mk, Nat.zero_add, Int.toNat_natCast]
   have hsg := (segL_spec _ _ _ _ (s3' i (by omega))).1
   rw [Array.length_toList] at hsg
   refine kst_of (vs := q.cells) hbv15 rfl rfl rfl hsg (by simp [Part.cells]) fun w19 h19 hs19 hb19 => ?_
   refine add_at (by omega) (by omega) ?_
   unfold f63_3
   refine add_at (by omega) (by omega) ?_
   rw [cast_succ, cast_succ]
   have hK := hkeep e
   have hile := hM.le
   refine hJ _ _ _ (by omega) ⟨by rw [Nat.add_assoc], by omega, i + 1, M.set i q, rfl, by omega, hK, ?_, hm.trans ((Mod.of_same m15).trans h19)⟩
   exact Own.setF (F := Part.cells) (fun _ => rfl) hOM hbv' (x := q) (i := i) hb19 (by omega)
  ·have e : del q = true := by simpa using e
   unfold f63_3
   refine add_at (by omega) (by omega) ?_
   rw [cast_succ]
   exact hJ _ _ _ (by omega) ⟨by rw [Nat.add_assoc], by omega, i, M, rfl, hil, hdrop e, hOM.same m15, hm.trans (Mod.of_same m15)⟩
 ·have hge : k + 1 + u = L.length := by omega
  unfold f63_4
  obtain ⟨bc, n', cp', arr, tt, e, hba, v1, v2, v3, v4, v5⟩ := hOM.view (by
   intro e
   have h1 := flat_len Part.cells 6 (fun _ => rfl) M
   rw [e] at h1; simp at h1; omega)
  cases e
  have hile := hM.le
  refine ksl_sl_lo (by omega) v3 (by omega) ?_
  rw [Nat.zero_add]
  refine ksem_clearP hba (by rw [v2]; omega) fun w25 arr2 h25 hb25 z1 z2 => ?_
  refine ksl_sl_hi (by omega) ?_
  refine ⟨?_, hmv (hm.trans h25), ?_⟩
  ·have e1 : (L.filter fun q => !del q) = M.take i := by rw [hM.ahead, hge, List.take_length]
   rw [e1, flat_take (F := Part.cells) (sz := 6) (fun _ => rfl)]
   have hML := flat_len Part.cells 6 (fun _ => rfl) M
   refine ⟨_, i, sc, rfl, by rw [List.length_take]; omega, by omega, v4, .inr ⟨bv, arr2, tt, rfl, hb25, by rw [z1, v2], ?_⟩⟩
   rw [z2, ← v5, List.take_take, Nat.min_eq_left (by omega)]
  ·rintro b ⟨_, _, _, e⟩; cases e; exact ⟨_, _, _, rfl⟩
end
section
attribute [local irreducible] kO kB kStr kInt kN kG kIf kfld kld kldN kst knew kmap kbld kbldS kext kcnv klenStr klen kcap kprt kprtN kbool kint kstr keq kun ksl kix kiv kta kmk kmm ksem ksemU kextf kcallV kcallM kcall kL
theorem slNumsT : isSlT Tryz.prog 85 = true := by kernel_rfl
theorem ones_ints : ∀ l : List Int, oneCells (l.map (Value.int .i64)) = true
 | [] => rfl
 | x :: l => by
  show oneCells (.int .i64 x :: l.map (Value.int .i64)) = true
  simp only [oneCells, ones_ints l]; rfl
theorem cloneN_spec {w : World} {a : Option Addr} {n c : Nat} {l : List Int} (hs : SlIs w a n 1 (l.map (Value.int .i64))) (hn : l.length ≤ 1000000) :
  Meets Tryz.prog 137 #[.slice a n c] w fun v w' => Own w' v 1 (l.map (Value.int .i64)) ∧ (∀ k, vblk v k → w.heap.size ≤ k) ∧ Same w w' := by
 have hl : n = l.length := by have h1 := hs.1; rw [List.length_map] at h1; omega
 subst hl
 refine f137_ok ?_
 unfold f137
 rw [keq_sl_nil slNumsT]
 cases a with
 | none =>
  have hL : l.length = 0 := by rcases hs.2 with h | ⟨_, _, _, _, _, h, _⟩; exact h; cases h
  have : l = [] := List.eq_nil_of_length_eq_zero hL
  subst this
  refine kB_at ?_
  refine kIf_T rfl ?_
  exact ⟨Own.nil _ _, (fun k hk => by obtain ⟨_, _, _, h⟩ := hk; cases h), Mod.refl _ _⟩
 | some a =>
  refine kB_at ?_
  refine kIf_F rfl ?_
  unfold f137_0
  refine kbldS_of (cs := []) rfl fun w5 h5 hs5 hb5 => ?_
  refine ksem_append apNums (by omega) (vs := []) (Own.blk hb5 (n := 0) (by simp) (by simp [maxLen])) (Src.ofSlIs (hk := slNums_is.choose_spec) c (hs.same h5) (ones_ints l)) (by simp; omega) (by simp; omega) ?_
  intro v' w' ho hm hf
  refine ⟨by simpa using ho, fun b hb => ?_, Mod.after h5 hm (fun b hb => by rw [vblk_new hb]; exact Nat.le_refl _)⟩
  rcases hf b hb with h | h
  ·rw [vblk_new h]; exact Nat.le_refl _
  ·omega
theorem bdList {U : Nat → Prop} {w : World} {b : Nat} {B : BdM} (h : BdAt U w b B) :
  Meets Tryz.prog 135 #[.pointer (some ⟨b, 0, none⟩)] w fun v w' => Own w' v 1 (B.nums.map (Value.int .i64)) ∧ (∀ k, vblk v k → w.heap.size ≤ k) ∧ Same w w' := by
 obtain ⟨bo, bi, sv, q⟩ := h
 have hn := q.nums
 have hle := q.le
 obtain ⟨a, n, c, rfl, hs, _⟩ := hn.is
 refine f135_ok ?_
 unfold f135
 rw [keq_ptr_nil ptBad]
 refine kB_at ?_
 refine kIf_F rfl ?_
 unfold f135_0
 refine kN_at ?_
 refine kfld_of ?_
 refine kld_of (v := .slice a n c) q.here rfl ?_
 refine kcall_of (cloneN_spec (l := B.nums) hs (by unfold BdM.nums; rw [List.length_map]; omega)) ?_
 rintro v w6 h
 exact h
theorem ptGoo : isPtrT Tryz.prog 142 = true := by kernel_rfl
theorem gAll {w : World} {bg : Nat} {gm gs gn : Value} {R : List Int} (hb : blk w bg = some (.cells #[gm, gs, gn] 221)) (ho : Own w gs 1 (R.map (Value.int .i64))) (hR : R.length ≤ 1000000) :
  Meets Tryz.prog 88 #[.pointer (some ⟨bg, 0, none⟩)] w fun v w' => Own w' v 1 (R.map (Value.int .i64)) ∧ (∀ k, vblk v k → w.heap.size ≤ k) ∧ Same w w' := by
 obtain ⟨a, n, c, rfl, hs, _⟩ := ho.is
 refine f88_ok ?_
 unfold f88
 rw [keq_ptr_nil ptGoo]
 refine kB_at ?_
 refine kIf_F rfl ?_
 unfold f88_0
 refine kN_at ?_
 refine kfld_of ?_
 refine kld_of (v := .slice a n c) hb rfl ?_
 refine kcall_of (cloneN_spec hs hR) ?_
 rintro v w6 h
 exact h
theorem wParts_dead {pr : Nat → Prop} {Sa : Nat → Addr} {c : WC} {w0 : World} (hL : LaidP pr Sa w0) (h17 : pr 17) {fx : Nat → Prop} {w : World} {S : SM} {t : Nat} {B : BdM} (h : WdAt c w0 fx w S t B) {x : Int} (hf : B.l.find? (fun z => decide (((z.1 : Nat) : Int) = x)) = none) :
  Meets Tryz.prog 34 #[.pointer (some ⟨c.bw, 0, none⟩), .int .i64 x] w fun v w' => (∃ e, v = .tuple #[.slice none 0 0, e] ∧ ErrX Sa 17 w.heap.size e w') ∧ Same w w' := by
 refine f34_ok ?_
 unfold f34
 refine kcall_of (wEntity_no hL h17 h hf) ?_
 rintro v w2 ⟨⟨e, rfl, hE⟩, h2⟩
 refine kext_at rfl ?_
 refine kext_at rfl ?_
 refine knew_of fun w6 h6 hs6 hb6 => ?_
 refine kst_of (vs := [.int .i64 0, .int .i64 0]) hb6 rfl rfl rfl (by simp) (by simp) fun w7 h7 hs7 hb7 => ?_
 have m7 : Same w2 w7 := h6.trans' (h7.mono fun k _ e => .inr (by omega))
 have hE7 := hE.same m7
 obtain ⟨ty, y, rfl⟩ := hE7.if
 rw [keq_if_nil' ifErr]
 refine kB_at ?_
 refine kIf_T rfl ?_
 exact ⟨⟨_, rfl, hE7⟩, h2.trans m7⟩
theorem wParts_ok {c : WC} {w0 : World} {fx : Nat → Prop} {w : World} {S : SM} {t : Nat} {B : BdM} (h : WdAt c w0 fx w S t B) {x : Int} {y : Nat × EK} (hf : B.l.find? (fun z => decide (((z.1 : Nat) : Int) = x)) = some y) :
  Meets Tryz.prog 34 #[.pointer (some ⟨c.bw, 0, none⟩), .int .i64 x] w fun v w' => ∃ s, v = .tuple #[s, .nilIface] ∧ Own w' s 6 ((partsOf S y.2.i.toNat).flatMap Part.cells) ∧ (∀ k, vblk s k → w.heap.size ≤ k) ∧ Same w w' := by
 have hym := List.mem_of_find?_eq_some hf
 obtain ⟨i, hyi, hg⟩ := h.link.live y hym
 rw [hyi, Int.toNat_natCast]
 refine f34_ok ?_
 unfold f34
 refine kcall_of (wEntity_ok h hf) ?_
 rintro v w2 ⟨rfl, h2⟩
 unfold EK.v entV
 rw [hyi]
 refine kext_at rfl ?_
 refine kext_at rfl ?_
 refine knew_of fun w6 h6 hs6 hb6 => ?_
 refine kst_of (vs := [.int .i64 i, .int .i64 y.2.g]) hb6 rfl rfl rfl (by simp) (by simp) fun w7 h7 hs7 hb7 => ?_
 have hb7 : blk w7 w2.heap.size = some (.cells #[.int .i64 i, .int .i64 y.2.g] 37) := hb7
 have m7 : Same w2 w7 := h6.trans' (h7.mono fun k _ e => .inr (by omega))
 rw [keq_nil_nil' ifErr]
 refine kB_at ?_
 refine kIf_F rfl ?_
 unfold f34_0
 have md : Same w7 w7.drew := (Mod.refl (fun _ => False) _).drew
 have mw : Same w w7.drew := (h2.trans m7).trans md
 have hd := h.loc mw
 have hbd := md.get hb7 (fun h => h)
 have hz := mw.size
 generalize w7.drew = wd at *
 refine kN_at ?_
 refine kfld_of ?_
 refine kld_of (v := .pointer (some ⟨c.bs, 0, none⟩)) hd.here rfl ?_
 refine kG_of rfl ?_
 refine kldN_at (cs := [.int .i64 i, .int .i64 y.2.g]) hbd rfl (by omega) ?_
 refine kG_of rfl ?_
 obtain ⟨o, p, U, C, hb, hU, hfx⟩ := hd.A
 have hp := parts_at C.sp C.gs hg
 rw [ptrV, entV] at hp
 refine kcall_of hp ?_
 rintro v w14 ⟨s, rfl, hO, hsk, h14⟩
 refine kext_at rfl ?_
 refine kext_at rfl ?_
 rw [keq_nil_nil' ifErr]
 refine kB_at ?_
 refine kIf_F rfl ?_
 unfold f34_1
 exact ⟨s, rfl, hO, fun k hk => by have := hsk k hk; omega, mw.trans h14⟩
structure BeV where
 id : Nat
 pa : Option Addr
 pc : Nat
 parts : List Part
def BeV.pv (b : BeV) : Value := .slice b.pa b.parts.length b.pc
def BeV.cells (b : BeV) : List Value := [natV b.id, .slice b.pa b.parts.length b.pc]
def BeV.key (b : BeV) : Nat × List Part := (b.id, b.parts)
structure BsAt (lo : Nat) (w : World) (x : Value) (bl : List BeV) : Prop where
 own : Own w x 2 (bl.flatMap BeV.cells)
 parts : ∀ b ∈ bl, Own w b.pv 6 (b.parts.flatMap Part.cells)
 xlo : ∀ k, vblk x k → lo ≤ k
 plo : ∀ b ∈ bl, ∀ k, vblk b.pv k → lo ≤ k
 ne : ∀ b ∈ bl, ∀ k, vblk b.pv k → ¬ vblk x k
 apart : bl.Pairwise fun b b' => ∀ k, vblk b.pv k → ¬ vblk b'.pv k
theorem BsAt.same {lo : Nat} {w w' : World} {x : Value} {bl : List BeV} (h : BsAt lo w x bl) (m : Same w w') : BsAt lo w' x bl :=
 ⟨h.own.same m, fun b hb => (h.parts b hb).same m, h.xlo, h.plo, h.ne, h.apart⟩
theorem apBes : appT Tryz.prog 84 2 32 = true := by kernel_rfl
theorem slBes_is : ∃ e, Tryz.prog.underlying 84 = some (.slice e) := slT_of (by kernel_rfl)
theorem find_self {B : BdM} (h : B.WF) {y : Nat × EK} (hy : y ∈ B.l) : B.l.find? (fun z => decide (((z.1 : Nat) : Int) = ((y.1 : Nat) : Int))) = some y := by
 cases hf : B.l.find? (fun z => decide (((z.1 : Nat) : Int) = ((y.1 : Nat) : Int))) with
 | none =>
  have := List.find?_eq_none.1 hf y hy
  simp at this
 | some z =>
  have h1 := List.mem_of_find?_eq_some hf
  have h2 := List.find?_some hf
  have h2 := of_decide_eq_true h2
  have h2 : z.1 = y.1 := by omega
  rw [nd_num h h1 hy h2]
theorem wView {c : WC} {w0 : World} {fx : Nat → Prop} {w : World} {S : SM} {t : Nat} {B : BdM} (h : WdAt c w0 fx w S t B) (hle : B.l.length ≤ 64) :
  Meets Tryz.prog 85 #[.pointer (some ⟨c.bw, 0, none⟩)] w fun v w' => ∃ bl, BsAt w.heap.size w' v bl ∧ bl.map BeV.key = viewS S B ∧ Same w w' := by
 have hwf := h.wf
 have hnl : B.nums.length = B.l.length := by unfold BdM.nums; rw [List.length_map]
 refine f85_ok ?_
 unfold f85
 rw [keq_ptr_nil ptWor]
 refine kB_at ?_
 refine kIf_F rfl ?_
 unfold f85_0
 refine kN_at ?_
 refine kfld_of ?_
 refine kld_of (v := .pointer (some ⟨c.bb, 0, none⟩)) h.here rfl ?_
 obtain ⟨o, p, U, C, hb, hU, hfx⟩ := id h.A
 refine kcall_of (bdList hb) ?_
 rintro v w6 ⟨hO6, hk6, h6⟩
 obtain ⟨an, nn, cn, rfl, hsn, _⟩ := hO6.is
 have hnn : nn = B.nums.length := by have h1 := hsn.1; rw [List.length_map] at h1; omega
 subst hnn
 have hz6 := h6.size
 refine klen_at ?_
 refine kL2_of B.nums.length (fun j x y wr => y = .int .i64 j ∧ ∃ bl, BsAt w6.heap.size wr x bl ∧ bl.map BeV.key = (viewS S B).take j ∧ Same w6 wr) ⟨lI2_0 ⟨rfl, [], ⟨Own.nil _ _, (fun b hb => by cases hb), (fun k hk => by obtain ⟨_, _, _, e⟩ := hk; cases e), (fun b hb => by cases hb), (fun b hb => by cases hb), List.Pairwise.nil⟩, rfl, Mod.refl _ _⟩, fun x y wr hx => ?_⟩
 obtain ⟨j, hj, ⟨rfl, bl, hB, hbk, hmr⟩, hJ⟩ := lI2_step hx
 unfold f85_1
 refine lss_at ?_
 refine kB_at ?_
 refine kIf_dec (fun hlt => ?_) (fun hge => ?_)
 ·have hlt : j < B.nums.length := by omega
  have hltl : j < B.l.length := by omega
  have hym := List.getElem_mem hltl
  have hnj : B.nums[j] = (((B.l[j]).1 : Nat) : Int) := by
   have hg : B.nums[j]? = some (((B.l[j]).1 : Nat) : Int) := by unfold BdM.nums; rw [List.getElem?_map, List.getElem?_eq_getElem hltl]; rfl
   rw [List.getElem?_eq_getElem hlt] at hg
   exact Option.some.inj hg
  have hvj : (viewS S B).take (j + 1) = (viewS S B).take j ++ [((B.l[j]).1, partsOf S (B.l[j]).2.i.toNat)] := by
   have hv : (viewS S B)[j]? = some ((B.l[j]).1, partsOf S (B.l[j]).2.i.toNat) := by unfold viewS; rw [List.getElem?_map, List.getElem?_eq_getElem hltl]; rfl
   rw [List.take_add_one, hv]; rfl
  have hff := find_self hwf hym
  have hmw := h6.trans hmr
  have hbll : bl.length = j := by
   have := congrArg List.length hbk
   rw [List.length_map, List.length_take, viewS_len] at this
   omega
  unfold f85_2
  refine kixld_of (F := Value.int .i64) (l := B.nums) (hsn.same hmr) hlt rfl ?_
  rw [hnj]
  generalize B.l[j] = y at *
  refine kcall_of (wParts_ok (h.loc hmw) hff) ?_
  rintro v w13 ⟨s, rfl, hOs, hsk, h13⟩
  refine kext_at rfl ?_
  refine kext_at rfl ?_
  rw [keq_nil_nil' ifErr]
  refine kB_at ?_
  refine kIf_F rfl ?_
  unfold f85_4
  obtain ⟨pa, pn, pc, rfl, hps, _⟩ := hOs.is
  have hfl := flat_len Part.cells 6 (fun _ => rfl) (partsOf S y.2.i.toNat)
  have hpn : pn = (partsOf S y.2.i.toNat).length := by have h1 := hps.1; omega
  subst hpn
  refine kbld_of (cs := (⟨y.1, pa, pc, partsOf S y.2.i.toNat⟩ : BeV).cells) rfl ?_
  refine kbldS_of (cs := (⟨y.1, pa, pc, partsOf S y.2.i.toNat⟩ : BeV).cells) rfl fun w21 h21 hs21 hb21 => ?_
  have hfb := flat_len BeV.cells 2 (fun _ => rfl) bl
  have hlc : ((⟨y.1, pa, pc, partsOf S y.2.i.toNat⟩ : BeV).cells.toArray.toList).length = 2 := rfl
  have m21 : Same wr w21 := h13.trans h21
  have hzr := hmr.size
  have hz13 := h13.size
  refine ksem_append apBes (by omega) (hB.own.same m21) (Src.ofSlIs (hk := slBes_is.choose_spec) 1 (SlIs.blk hb21 rfl) rfl) (by omega) (by omega) ?_
  intro x' w23 hO23 m23 hf23
  unfold f85_3
  refine add_at (by omega) (by omega) ?_
  rw [cast_succ]
  have hOs23 : Own w23 (.slice pa (partsOf S y.2.i.toNat).length pc) 6 ((partsOf S y.2.i.toNat).flatMap Part.cells) := (hOs.same h21).mod m23 fun k hk hx => by
   have h1 := hsk k hk
   have h2 := hB.own.vblk_lt hx
   omega
  have hxl : ∀ k, vblk x' k → (vblk x k ∨ w21.heap.size ≤ k) := hf23
  refine hJ _ _ _ hlt ⟨rfl, bl ++ [⟨y.1, pa, pc, partsOf S y.2.i.toNat⟩], ⟨?_, fun b hb => ?_, fun k hk => ?_, fun b hb k hk => ?_, fun b hb k hk hx => ?_, ?_⟩, ?_, Mod.after (hmr.trans m21) m23 fun k hk => hB.xlo k hk⟩
  ·rw [List.flatMap_append]; simpa using hO23
  ·rcases List.mem_append.1 hb with hb | hb
   ·exact ((hB.parts b hb).same m21).mod m23 fun k hk hx => hB.ne b hb k hk hx
   ·have : b = ⟨y.1, pa, pc, partsOf S y.2.i.toNat⟩ := by simpa using hb
    subst this; exact hOs23
  ·rcases hxl k hk with h | h
   ·exact hB.xlo k h
   ·omega
  ·rcases List.mem_append.1 hb with hb | hb
   ·exact hB.plo b hb k hk
   ·have : b = ⟨y.1, pa, pc, partsOf S y.2.i.toNat⟩ := by simpa using hb
    subst this
    have := hsk k hk; omega
  ·rcases List.mem_append.1 hb with hb | hb
   ·rcases hxl k hx with h | h
    ·exact hB.ne b hb k hk h
    ·have := (hB.parts b hb).vblk_lt hk; omega
   ·have : b = ⟨y.1, pa, pc, partsOf S y.2.i.toNat⟩ := by simpa using hb
    subst this
    rcases hxl k hx with h | h
    ·have h1 := hsk k hk; have h2 := hB.own.vblk_lt h; omega
    ·have h1 : k < w13.heap.size := hOs.vblk_lt hk
     omega
  ·rw [List.pairwise_append]
   refine ⟨hB.apart, List.pairwise_singleton _ _, fun b hb b' hb' k hk hk' => ?_⟩
   have : b' = ⟨y.1, pa, pc, partsOf S y.2.i.toNat⟩ := by simpa using hb'
   subst this
   have h1 := (hB.parts b hb).vblk_lt hk
   have h2 := hsk k hk'
   omega
  ·rw [List.map_append, hbk, hvj]; rfl
 ·have : j = B.nums.length := by omega
  subst this
  unfold f85_5
  rw [List.take_of_length_le (by rw [viewS_len]; omega)] at hbk
  exact ⟨bl, ⟨hB.own, hB.parts, fun k hk => by have := hB.xlo k hk; omega, fun b hb k hk => by have := hB.plo b hb k hk; omega, hB.ne, hB.apart⟩, hbk, h6.trans hmr⟩
end
section
attribute [local irreducible] kO kB kStr kInt kN kG kIf kfld kld kldN kst knew kmap kbld kbldS kext kcnv klenStr klen kcap kprt kprtN kbool kint kstr keq kun ksl kix kiv kta kmk kmm ksem ksemU kextf kcallV kcallM kcall kL
def rbC (m : Nat) (q : Part) : Bool := decide (m &&& bitF q.comp ≠ 0)
theorem state1_spec {c : WC} {w : World} (h : blk w c.bw = some (.cells c.cells 150)) (hr : c.rolled < 4294967296) {b1 : Nat} (hb : blk w b1 = some (.cells #[.pointer (some ⟨c.bw, 0, none⟩)] 62)) (q : Part) (hq : I64 q.comp) :
  Meets Tryz.prog 86 #[.agg q.cells.toArray, .pointer (some ⟨b1, 0, none⟩)] w fun v w' => v = .bool (!rbC c.rolled q) ∧ Same w w' := by
 refine f86_ok ?_
 unfold f86
 refine knew_of fun w2 h2 hs2 hb2 => ?_
 have hb2 : blk w2 w.heap.size = some (.cells q.cells.toArray 47) := hb2
 have md : Same w2 w2.drew := (Mod.refl (fun _ => False) _).drew
 have m2 := h2.trans md
 have hbd := md.get hb2 (fun h => h)
 generalize w2.drew = wd at *
 refine kld_of (v := .pointer (some ⟨c.bw, 0, none⟩)) (m2.get hb (fun h => h)) rfl ?_
 refine kG_of rfl ?_
 refine kN_at ?_
 refine kfld_of ?_
 refine kld_of (v := msk c.rolled) (m2.get h (fun h => h)) rfl ?_
 refine kG_of rfl ?_
 refine kfld_of ?_
 refine kld_of (v := .int .i64 q.comp) hbd (by simp [Part.cells]) ?_
 refine kG_of rfl ?_
 refine kcall_of (has_spec c.rolled q.comp hr hq.1 hq.2 _) ?_
 rintro v w9 ⟨rfl, rfl⟩
 refine not_at ?_
 exact ⟨rfl, m2⟩
structure StV where
 frame : Int
 next : Nat
 seed : Int
 xa : Option Addr
 xc : Nat
 bl : List BeV
 ra : Option Addr
 rc : Nat
 R : List Int
def StV.cells (s : StV) : List Value := [.int .i64 s.frame, natV s.next, .int .i64 s.seed, .slice s.xa s.bl.length s.xc, .slice s.ra s.R.length s.rc]
def StV.val (s : StV) : Value := .agg s.cells.toArray
structure StM where
 frame : Int
 next : Nat
 seed : Int
 beings : List (Nat × List Part)
 R : List Int
def StV.m (s : StV) : StM := ⟨s.frame, s.next, s.seed, s.bl.map BeV.key, s.R⟩
def rbV (m : Nat) (V : List (Nat × List Part)) : List (Nat × List Part) := V.map fun y => (y.1, y.2.filter (rbC m))
def stM (c : WC) (V : List (Nat × List Part)) (nx : Nat) : StM := ⟨c.frame, nx, c.seed, rbV c.rolled V, c.R⟩
structure StAt (lo : Nat) (w : World) (s : StV) : Prop where
 xs : SlIs w s.xa s.bl.length 2 (s.bl.flatMap BeV.cells)
 ps : ∀ b ∈ s.bl, SlIs w b.pa b.parts.length 6 (b.parts.flatMap Part.cells)
 rs : SlIs w s.ra s.R.length 1 (s.R.map (Value.int .i64))
 xlo : ∀ k f, s.xa = some ⟨k, f, none⟩ → lo ≤ k
 plo : ∀ b ∈ s.bl, ∀ k f, b.pa = some ⟨k, f, none⟩ → lo ≤ k
 rlo : ∀ k f, s.ra = some ⟨k, f, none⟩ → lo ≤ k
theorem StAt.mod {lo : Nat} {fp : Nat → Prop} {w w' : World} {s : StV} (h : StAt lo w s) (m : Mod fp w w') (hf : ∀ k, lo ≤ k → ¬ fp k) : StAt lo w' s :=
 ⟨h.xs.mod m fun k f e => hf k (h.xlo k f e), fun b hb => (h.ps b hb).mod m fun k f e => hf k (h.plo b hb k f e), h.rs.mod m fun k f e => hf k (h.rlo k f e), h.xlo, h.plo, h.rlo⟩
theorem StAt.same {lo : Nat} {w w' : World} {s : StV} (h : StAt lo w s) (m : Same w w') : StAt lo w' s := h.mod m fun _ _ h => h
theorem upd_list {α : Type} (f : α → α) (V : List α) (i : Nat) (hi : i < V.length) : ((V.take i).map f ++ V.drop i).set i (f V[i]) = (V.take (i + 1)).map f ++ V.drop (i + 1) := by
 have hl : ((V.take i).map f).length = i := by rw [List.length_map, List.length_take]; omega
 rw [List.set_append_right _ _ (by omega), hl, Nat.sub_self, List.drop_eq_getElem_cons hi, List.set_cons_zero, List.take_succ_eq_append_getElem hi, List.map_append]
 simp
theorem own_sl {w : World} {a : Option Addr} {n c sz : Nat} {vs : List Value} (h : Own w (.slice a n c) sz vs) : SlIs w a n sz vs := by
 obtain ⟨a', n', c', e, h, _⟩ := h.is
 cases e
 exact h
theorem flat_be : ∀ (l : List BeV) (i : Nat) (hi : i < l.length) (b : BeV), (l[i]).id = b.id → (l.flatMap BeV.cells).set (i * 2 + 1) (.slice b.pa b.parts.length b.pc) = (l.set i b).flatMap BeV.cells
 | y :: l, 0, hi, b, e => by
  have e : y.id = b.id := e
  show natV y.id :: Value.slice b.pa b.parts.length b.pc :: l.flatMap BeV.cells = natV b.id :: Value.slice b.pa b.parts.length b.pc :: l.flatMap BeV.cells
  rw [e]
 | y :: l, i + 1, hi, b, e => by
  have ih := flat_be l i (by simpa using hi) b e
  rw [show (i + 1) * 2 + 1 = (i * 2 + 1) + 2 by omega]
  show natV y.id :: Value.slice y.pa y.parts.length y.pc :: (l.flatMap BeV.cells).set (i * 2 + 1) _ = natV y.id :: Value.slice y.pa y.parts.length y.pc :: (l.set i b).flatMap BeV.cells
  rw [ih]
theorem wState {c : WC} {w0 : World} {fx : Nat → Prop} {w : World} {S : SM} {t : Nat} {B : BdM} (h : WdAt c w0 fx w S t B) (hle : B.l.length ≤ 64) (hR : c.R.length ≤ 1000000) :
  Meets Tryz.prog 32 #[.pointer (some ⟨c.bw, 0, none⟩)] w fun v w' => ∃ s : StV, v = s.val ∧ StAt w.heap.size w' s ∧ s.m = stM c (viewS S B) B.nx ∧ Same w w' := by
 have hvl := viewS_len S B
 have hfits : ∀ y ∈ viewS S B, ∀ q ∈ y.2, 0 ≤ q.comp ∧ q.comp < 16 := by
  intro y hy q hq
  obtain ⟨x, hx, rfl⟩ := List.mem_map.1 hy
  obtain ⟨i, hi, hg⟩ := h.link.live x hx
  obtain ⟨o, p, U, C, _⟩ := h.A
  obtain ⟨n, r, _, _, _, _, _, _, _, hf, _⟩ := parts_ok C.sp C.gs hg
  have hq : q ∈ partsOf S x.2.i.toNat := hq
  rw [hi, Int.toNat_natCast] at hq
  obtain ⟨cc, h1, h2, _⟩ := hf q hq
  have h3 := h.good.len
  rw [h.cs] at h2
  omega
 have hlen : ∀ y ∈ viewS S B, y.2.length ≤ 1000 := by
  intro y hy
  obtain ⟨x, hx, rfl⟩ := List.mem_map.1 hy
  obtain ⟨i, hi, hg⟩ := h.link.live x hx
  obtain ⟨o, p, U, C, _⟩ := h.A
  obtain ⟨n, r, _, _, _, _, _, _, hm, _⟩ := parts_ok C.sp C.gs hg
  have e := congrArg List.length hm
  rw [List.length_map, List.length_map] at e
  have := listF_len S.masks[n]
  show (partsOf S x.2.i.toNat).length ≤ 1000
  rw [hi, Int.toNat_natCast]
  omega
 refine f32_ok ?_
 unfold f32
 refine knew_of fun w2 h2 hs2 hb2 => ?_
 have hb2 : blk w2 w.heap.size = some (.cells #[.pointer (some ⟨c.bw, 0, none⟩)] 62) := hb2
 refine knew_of fun w4 h4 hs4 hb4 => ?_
 have hb4 : blk w4 w2.heap.size = some (.cells #[.int .i64 0, .int .i64 0, .int .i64 0, .slice none 0 0, .slice none 0 0] 87) := hb4
 have m4 := h2.trans h4
 have hb24 := h4.get hb2 (fun h => h)
 refine kld_of (v := .pointer (some ⟨c.bw, 0, none⟩)) hb24 rfl ?_
 rw [keq_ptr_nil ptWor]
 refine kB_at ?_
 refine kIf_F rfl ?_
 unfold f32_0
 refine kld_of (v := .pointer (some ⟨c.bw, 0, none⟩)) hb24 rfl ?_
 refine kcall_of (wView (h.loc m4) hle) ?_
 rintro v w13 ⟨bl0, hB0, hk0, h13⟩
 obtain ⟨xa, xn, xc, rfl, hxs, _⟩ := hB0.own.is
 have hfb := flat_len BeV.cells 2 (fun _ => rfl) bl0
 have hbl0 : bl0.length = (viewS S B).length := by have := congrArg List.length hk0; rw [List.length_map] at this; exact this
 have hxn : xn = (viewS S B).length := by have h1 := hxs.1; omega
 subst hxn
 have m13 := m4.trans h13
 have hbwl := lt_of_blk h.here
 have hz4 := m4.size
 refine klen_at ?_
 refine kL1_of (viewS S B).length (fun i y wr => y = .int .i64 i ∧ ∃ bl, bl.length = (viewS S B).length ∧ BsAt w4.heap.size wr (.slice xa (viewS S B).length xc) bl ∧ bl.map BeV.key = ((viewS S B).take i).map (fun y => (y.1, y.2.filter (rbC c.rolled))) ++ (viewS S B).drop i ∧ Mod (fun k => w4.heap.size ≤ k) w13 wr) ⟨lI1_0 ⟨rfl, bl0, hbl0, hB0, by simpa using hk0, Mod.refl _ _⟩, fun y wr hx => ?_⟩
 obtain ⟨i, hi, ⟨rfl, bl, hbl, hB, hkk, hmr⟩, hJ⟩ := lI1_step hx
 have s0r : Same w4 wr := h13.trans' (hmr.mono fun k _ e => .inr e)
 have swr : Same w wr := m4.trans s0r
 unfold f32_1
 refine lss_at ?_
 refine kB_at ?_
 refine kIf_dec (fun hlt => ?_) (fun hge => ?_)
 ·have hlt : i < (viewS S B).length := by omega
  have hib : i < bl.length := by omega
  have hVi : (bl[i]).key = (viewS S B)[i] := by
   have e := congrArg (fun l : List (Nat × List Part) => l[i]?) hkk
   have hl : (((viewS S B).take i).map (fun y => (y.1, y.2.filter (rbC c.rolled)))).length = i := by rw [List.length_map, List.length_take]; omega
   simp only [List.getElem?_map, List.getElem?_eq_getElem hib, Option.map_some] at e
   rw [List.getElem?_append_right (by omega), hl, Nat.sub_self, List.getElem?_drop, Nat.add_zero, List.getElem?_eq_getElem hlt] at e
   exact Option.some.inj e
  have hmemV := List.getElem_mem hlt
  have hbm := List.getElem_mem hib
  obtain ⟨bx, cp, arr, tt, e0, hbx, s1, s2, s3⟩ := hB.own.viewF (F := BeV.cells) (sz := 2) (fun _ => rfl) (by omega) (show 0 < bl.length by omega)
  rw [hbl] at e0 s1 s2
  cases e0
  have hsi := s3 i hib
  have hfits' := hfits _ hmemV
  have hlen' := hlen _ hmemV
  rw [← hVi] at hfits' hlen'
  have hupd := upd_list (fun y : Nat × List Part => (y.1, y.2.filter (rbC c.rolled))) (viewS S B) i hlt
  rw [← hVi, ← hkk] at hupd
  have hset : bl.set i bl[i] = bl := List.set_getElem_self hib
  generalize hbi : bl[i] = b at *
  have hOb := hB.parts b hbm
  have hne := hB.ne b hbm
  have hplo := hB.plo b hbm
  unfold f32_2
  rw [kix_slice]
  refine kG_of (by omega) ?_
  rw [add_mk, Nat.zero_add, Int.toNat_natCast]
  refine kN_at ?_
  refine kfld_of ?_
  have hsg := segL_spec _ _ _ _ hsi
  rw [Array.length_toList] at hsg
  have hcell : arr[i * 2 + 1]? = some (.slice b.pa b.parts.length b.pc) := by
   have := congrArg (fun l : List Value => l[1]?) hsg.2
   rw [← Array.getElem?_toList]
   simpa [List.getElem?_take, List.getElem?_drop, BeV.cells] using this
  refine kld_of (v := .slice b.pa b.parts.length b.pc) hbx hcell ?_
  have hTells : Tells (.slice b.pa b.parts.length b.pc) wr 86 #[.pointer (some ⟨w.heap.size, 0, none⟩)] b.parts (fun q => !rbC c.rolled q) := by
   intro q hq w1 m1
   have keep : ∀ k, k < w4.heap.size → ¬ vblk (.slice b.pa b.parts.length b.pc) k := fun k hk hv => by have := hplo k hv; omega
   have hq' := hfits' q hq
   exact state1_spec (m1.get (swr.get h.here (fun h => h)) (keep _ (by omega))) h.rl (m1.get (s0r.get hb24 (fun h => h)) (keep _ (by omega))) q (by unfold I64; omega)
  refine kcall_of (deleteG_spec hOb hTells (by have : b.parts.length ≤ 1000 := hlen'; omega)) ?_
  rintro v' w21 ⟨hO21, m21, hv21⟩
  have hfe : (b.parts.filter fun q => !(!rbC c.rolled q)) = b.parts.filter (rbC c.rolled) := by
   congr 1; funext q; rw [Bool.not_not]
  rw [hfe] at hO21
  obtain ⟨pa, pn, pc, rfl, hps, _⟩ := hO21.is
  have hflp := flat_len Part.cells 6 (fun _ => rfl) (b.parts.filter (rbC c.rolled))
  have hpn : pn = (b.parts.filter (rbC c.rolled)).length := by have h1 := hps.1; omega
  subst hpn
  have hxv : vblk (.slice (some ⟨bx, 0, none⟩) (viewS S B).length xc) bx := ⟨0, _, _, rfl⟩
  have hbx21 := m21.get hbx (fun hk => hne _ hk hxv)
  refine kN_at ?_
  refine kfld_of ?_
  refine kst1_of hbx21 rfl rfl (by omega) fun w23 h23 hs23 hb23 => ?_
  unfold f32_3
  refine add_at (by omega) (by omega) ?_
  rw [cast_succ]
  have hxlo := hB.xlo bx hxv
  have m2123 : Mod (fun k => w4.heap.size ≤ k) wr w23 := (m21.mono fun k _ hk => hplo k hk).trans (h23.mono fun k _ e => by omega)
  have key : ∀ b' ∈ bl.set i (⟨b.id, pa, pc, b.parts.filter (rbC c.rolled)⟩ : BeV), b' = ⟨b.id, pa, pc, b.parts.filter (rbC c.rolled)⟩ ∨ (b' ∈ bl ∧ ∀ k, vblk b'.pv k → ¬ vblk b.pv k) := fun b' hb' => by
   obtain ⟨j, hj, e⟩ := List.mem_iff_getElem.1 hb'
   rw [List.length_set] at hj
   rw [List.getElem_set] at e
   by_cases hij : i = j
   ·rw [if_pos hij] at e; exact .inl e.symm
   ·rw [if_neg hij] at e
    refine .inr ⟨e ▸ List.getElem_mem hj, fun k hk hk' => ?_⟩
    have hap := List.pairwise_iff_getElem.1 hB.apart
    rcases Nat.lt_or_ge i j with h | h
    ·have := hap i j hib hj h
     rw [hbi, e] at this
     exact this k hk' hk
    ·have := hap j i hj hib (by omega)
     rw [hbi, e] at this
     exact this k hk hk'
  have hpv : ∀ k, vblk (⟨b.id, pa, pc, b.parts.filter (rbC c.rolled)⟩ : BeV).pv k → vblk b.pv k := hv21
  refine hJ _ _ hlt ⟨rfl, bl.set i ⟨b.id, pa, pc, b.parts.filter (rbC c.rolled)⟩, by rw [List.length_set, hbl], ⟨?_, fun b' hb' => ?_, hB.xlo, fun b' hb' k hk => ?_, fun b' hb' k hk => ?_, ?_⟩, ?_, hmr.trans m2123⟩
  ·have hO : Own w21 (.slice (some ⟨bx, 0, none⟩) (viewS S B).length xc) 2 (bl.flatMap BeV.cells) := hB.own.mod m21 fun k hx hk => hne k hk hx
   have h1 := Own.set1 hO hbx21 hb23 (j := i * 2 + 1) (by rw [flat_len BeV.cells 2 (fun _ => rfl)]; omega)
   have e1 := flat_be bl i hib ⟨b.id, pa, pc, b.parts.filter (rbC c.rolled)⟩ (by rw [hbi])
   rw [← e1]; exact h1
  ·rcases key b' hb' with rfl | ⟨hb', hap⟩
   ·exact hO21.mod h23 fun k hk e => by rw [e] at hk; exact hne _ (hv21 _ hk) hxv
   ·exact ((hB.parts b' hb').mod m21 fun k hk hk' => hap k hk hk').mod h23 fun k hk e => by rw [e] at hk; exact hB.ne b' hb' _ hk hxv
  ·rcases key b' hb' with rfl | ⟨hb', hap⟩
   ·exact hplo k (hpv k hk)
   ·exact hB.plo b' hb' k hk
  ·rcases key b' hb' with rfl | ⟨hb', hap⟩
   ·exact hne k (hpv k hk)
   ·exact hB.ne b' hb' k hk
  ·rw [List.pairwise_iff_getElem]
   intro p q hp hq hpq k hk hk'
   rw [List.length_set] at hp hq
   have hap := List.pairwise_iff_getElem.1 hB.apart p q hp hq hpq
   rw [List.getElem_set] at hk hk'
   by_cases h1 : i = p
   ·rw [if_pos h1] at hk
    rw [if_neg (by omega)] at hk'
    subst h1
    rw [hbi] at hap
    exact hap k (hpv k hk) hk'
   ·rw [if_neg h1] at hk
    by_cases h2 : i = q
    ·rw [if_pos h2] at hk'
     subst h2
     rw [hbi] at hap
     exact hap k hk (hpv k hk')
    ·rw [if_neg h2] at hk'
     exact hap k hk hk'
  ·rw [List.map_set]; exact hupd
 ·have : i = (viewS S B).length := by omega
  subst this
  rw [List.take_length, List.drop_length, List.append_nil] at hkk
  unfold f32_4
  have md : Same wr wr.drew := (Mod.refl (fun _ => False) _).drew
  have hW := h.loc (swr.trans md)
  have hBd := hB.same md
  have hb1 := (s0r.trans md).get hb24 (fun h => h)
  have hb4d := (s0r.trans md).get hb4 (fun h => h)
  have swd := swr.trans md
  have hzd := (s0r.trans md).size
  generalize wr.drew = wd at *
  have kx : ∀ {w1 : World}, Same wd w1 → blk w1 w.heap.size = some (.cells #[.pointer (some ⟨c.bw, 0, none⟩)] 62) := fun m => m.get hb1 (fun h => h)
  have kw : ∀ {w1 : World}, Same wd w1 → blk w1 c.bw = some (.cells c.cells 150) := fun m => m.get hW.here (fun h => h)
  have m0 : Same wd wd := Mod.refl _ _
  refine kld_of (v := .pointer (some ⟨c.bw, 0, none⟩)) hb1 rfl ?_
  refine kG_of rfl ?_
  refine kN_at ?_
  refine kfld_of ?_
  refine kld_of (v := .int .i64 c.frame) hW.here rfl ?_
  refine kG_of rfl ?_
  refine kld_of (v := .pointer (some ⟨c.bw, 0, none⟩)) hb1 rfl ?_
  refine kG_of rfl ?_
  refine kN_at ?_
  refine kfld_of ?_
  refine kld_of (v := .pointer (some ⟨c.bb, 0, none⟩)) hW.here rfl ?_
  refine kG_of rfl ?_
  obtain ⟨o, p, U, C, hb, hU, hfx⟩ := id hW.A
  refine kcall_of (bdNext hb) ?_
  rintro v w32 ⟨rfl, rfl⟩
  refine kG_of (kld_of (v := .int .i64 c.frame) hW.here rfl ⟨rfl, rfl⟩) ?_
  refine kG_of (kld_of (v := .pointer (some ⟨c.bw, 0, none⟩)) hb1 rfl ⟨rfl, rfl⟩) ?_
  refine kld_of (v := .pointer (some ⟨c.bw, 0, none⟩)) hb1 rfl ?_
  refine kG_of rfl ?_
  refine kG_of (kld_of (v := .pointer (some ⟨c.bw, 0, none⟩)) hb1 rfl ⟨rfl, rfl⟩) ?_
  refine kN_at ?_
  refine kfld_of ?_
  refine kld_of (v := .int .i64 c.seed) hW.here rfl ?_
  refine kG_of rfl ?_
  refine kG_of (kld_of (v := .int .i64 c.seed) hW.here rfl ⟨rfl, rfl⟩) ?_
  refine kld_of (v := .pointer (some ⟨c.bw, 0, none⟩)) hb1 rfl ?_
  refine kG_of rfl ?_
  refine kG_of (kld_of (v := .pointer (some ⟨c.bw, 0, none⟩)) hb1 rfl ⟨rfl, rfl⟩) ?_
  refine kN_at ?_
  refine kfld_of ?_
  refine kld_of (v := .pointer (some ⟨c.bg, 0, none⟩)) hW.here rfl ?_
  refine kG_of rfl ?_
  refine kG_of (kld_of (v := .pointer (some ⟨c.bg, 0, none⟩)) hW.here rfl ⟨rfl, rfl⟩) ?_
  refine kcall_of (gAll hW.gh hW.go hR) ?_
  rintro v w40 ⟨hO40, hk40, h40⟩
  refine kG_of (kld_of (v := .int .i64 c.seed) (kw h40) rfl ⟨rfl, rfl⟩) ?_
  refine kG_of (kld_of (v := .pointer (some ⟨c.bw, 0, none⟩)) (kx h40) rfl ⟨rfl, rfl⟩) ?_
  refine kG_of (kld_of (v := .int .i64 c.frame) (kw h40) rfl ⟨rfl, rfl⟩) ?_
  refine kG_of (kld_of (v := .pointer (some ⟨c.bw, 0, none⟩)) (kx h40) rfl ⟨rfl, rfl⟩) ?_
  obtain ⟨ra, rn, rc, rfl, hrs, _⟩ := hO40.is
  have hrn : rn = c.R.length := by have h1 := hrs.1; rw [List.length_map] at h1; omega
  subst hrn
  refine kbld_of (cs := [.int .i64 c.frame, natV B.nx, .int .i64 c.seed, .slice xa (viewS S B).length xc, .slice ra c.R.length rc]) rfl ?_
  refine kst_of (vs := [.int .i64 c.frame, natV B.nx, .int .i64 c.seed, .slice xa (viewS S B).length xc, .slice ra c.R.length rc]) (h40.get hb4d (fun h => h)) rfl rfl rfl (by simp) (by simp) fun w42 h42 hs42 hb42 => ?_
  have hb42 : blk w42 w2.heap.size = some (.cells #[.int .i64 c.frame, natV B.nx, .int .i64 c.seed, .slice xa (viewS S B).length xc, .slice ra c.R.length rc] 87) := hb42
  refine kldN_at (cs := [.int .i64 c.frame, natV B.nx, .int .i64 c.seed, .slice xa (viewS S B).length xc, .slice ra c.R.length rc]) hb42 rfl (by omega) ?_
  have hz2 := h2.size
  have hlt2 := lt_of_blk hb4
  have nw : ∀ k, w4.heap.size ≤ k → ¬ k = w2.heap.size := fun k hk e => by omega
  refine ⟨⟨c.frame, B.nx, c.seed, xa, xc, bl, ra, rc, c.R⟩, ?_, ⟨?_, fun b hb => ?_, ?_, fun k f e => ?_, fun b hb k f e => ?_, fun k f e => ?_⟩, ?_, ?_⟩
  ·unfold StV.val StV.cells
   rw [hbl]
  ·have h1 := own_sl ((hBd.own.same h40).mod h42 fun k hk e => nw k (hB.xlo k hk) e)
   rw [← hbl] at h1
   exact h1
  ·exact own_sl (((hBd.parts b hb).same h40).mod h42 fun k hk e => nw k (hB.plo b hb k hk) e)
  ·exact own_sl (hO40.mod h42 fun k hk e => by have := hk40 k hk; omega)
  ·have := hB.xlo k ⟨f, _, _, by rw [show xa = some ⟨k, f, none⟩ from e]⟩; omega
  ·have := hB.plo b hb k ⟨f, b.parts.length, b.pc, by unfold BeV.pv; rw [e]⟩; omega
  ·have := hk40 k ⟨f, c.R.length, rc, by rw [show ra = some ⟨k, f, none⟩ from e]⟩; omega
  ·unfold StV.m stM rbV
   show StM.mk c.frame B.nx c.seed (bl.map BeV.key) c.R = _
   rw [hkk]
  ·exact (swd.trans h40).trans' (h42.mono fun k _ e => .inr (by omega))
end
section
def intV (n : Int) : Value := .int .i64 n
theorem kcallC_of' {P : Program} {f : FuncId} {args : List Value} {w : World} {K Q : Value → World → Prop} (h : Meets P f args.toArray w Q) (hk : ∀ v w', Q v w' → K v w') : kcallV P (.func (.func f) #[] #[]) args w K := by
 have : Meets P f (#[] ++ args.toArray ++ #[]) w K := by simpa using h.mono hk
 exact this
def EqInvW (n : Nat) (r : Nat → Bool) (w : World) (x : Value) (wr : World) : Prop := ∃ i : Nat, i ≤ n ∧ x = .int .i64 i ∧ (∀ j, j < i → r j = true) ∧ Same w wr
def rrW {α β γ : Type} [DecidableEq β] (F : α → β) (G : γ → β) (l1 : List α) (l2 : List γ) (i : Nat) : Bool := match l1[i]?, l2[i]? with
 | some a, some b => decide (F a = G b)
 | _, _ => true
theorem rrW_at {α β γ : Type} [DecidableEq β] (F : α → β) (G : γ → β) (l1 : List α) (l2 : List γ) (i : Nat) (h1 : i < l1.length) (h2 : i < l2.length) : rrW F G l1 l2 i = decide (F l1[i] = G l2[i]) := by
 unfold rrW
 rw [List.getElem?_eq_getElem h1, List.getElem?_eq_getElem h2]
theorem rrW_law {α β γ : Type} [DecidableEq β] (F : α → β) (G : γ → β) (l1 : List α) (l2 : List γ) : (decide (l1.length = l2.length) && (List.range l1.length).all (rrW F G l1 l2)) = decide (l1.map F = l2.map G) := by
 rw [Bool.eq_iff_iff, Bool.and_eq_true, decide_eq_true_eq, decide_eq_true_eq, List.all_eq_true]
 constructor
 ·rintro ⟨hl, hall⟩
  apply List.ext_getElem (by simp [hl])
  intro i h1 h2
  have h1 : i < l1.length := by simpa using h1
  have h2 : i < l2.length := by simpa using h2
  have := hall i (by simpa using h1)
  rw [rrW_at F G l1 l2 i h1 h2] at this
  simpa using this
 ·intro h
  have hl : l1.length = l2.length := by simpa using congrArg List.length h
  refine ⟨hl, fun i hi => ?_⟩
  have h1 : i < l1.length := by simpa using hi
  rw [rrW_at F G l1 l2 i h1 (by omega), decide_eq_true_eq]
  have := List.getElem_of_eq h (i := i) (by simpa using h1)
  simpa using this
theorem eqParts_spec {w : World} (l1 l2 : List Part) (k1 : ∀ p ∈ l1, p.ok) (k2 : ∀ p ∈ l2, p.ok) (a1 a2 : Option Addr) (c1 c2 : Nat) (h1 : SlIs w a1 l1.length 6 (l1.flatMap Part.cells)) (h2 : SlIs w a2 l2.length 6 (l2.flatMap Part.cells)) (hn : l1.length ≤ 1073741824) :
  Meets Tryz.prog 90 #[.slice a1 l1.length c1, .slice a2 l2.length c2] w fun v w' => v = .bool (decide (l1 = l2)) ∧ Same w w' := by
 have law := rrW_law (fun p : Part => p) (fun p : Part => p) l1 l2
 simp only [List.map_id'] at law
 rw [← law]
 clear law
 refine f90_ok ?_
 unfold f90
 rw [klen_slice, klen_slice, kint_neq, kB_bool]
 refine kIf_dec (fun hne => ?_) (fun heq => ?_)
 ·exact ⟨by rw [decide_eq_false (by omega), Bool.false_and], Mod.refl _ _⟩
 have hl : l1.length = l2.length := by omega
 rw [decide_eq_true hl, Bool.true_and]
 unfold f90_0
 rw [klen_slice]
 refine kL_of (EqInvW l1.length (rrW (fun p : Part => p) (fun p : Part => p) l1 l2) w) (fun x _ => l1.length - (RowKit.intOf x).toNat) ⟨⟨0, by omega, rfl, by simp, Mod.refl _ _⟩, ?_⟩
 rintro x wr ⟨i, hi, rfl, hr, hm⟩
 unfold f90_1
 rw [kint_lss, kB_bool]
 refine kIf_dec (fun hlt => ?_) (fun hge => ?_)
 ·have hlt : i < l1.length := by omega
  unfold f90_2
  refine kixldN_of (F := Part.cells) (fun _ => rfl) (by omega) (h1.same hm) hlt rfl ?_
  refine kG_of rfl ?_
  refine kixldN_of (F := Part.cells) (fun _ => rfl) (by omega) (h2.same hm) (show i < l2.length by omega) rfl ?_
  refine kG_of rfl ?_
  rw [keq_partN (k1 _ (List.getElem_mem hlt)) (k2 _ (List.getElem_mem (by omega)))]
  refine kG_of rfl ?_
  have hr' := rrW_at (fun p : Part => p) (fun p : Part => p) l1 l2 i hlt (by omega)
  rw [kB_bool]
  refine kIf_of (fun hb => ?_) (fun hb => ?_)
  ·refine ⟨?_, hm.drew⟩
   congr 1
   symm
   rw [List.all_eq_false]
   exact ⟨i, by simpa using hlt, by rw [hr']; simpa using hb⟩
  ·unfold f90_3
   rw [kint_add, i64_succ (by omega)]
   refine ⟨⟨i + 1, by omega, rfl, fun j hj => ?_, hm.drew⟩, by simp [RowKit.intOf]; omega⟩
   by_cases e : j = i
   ·rw [e, hr']; simpa using hb
   ·exact hr j (by omega)
 ·have : i = l1.length := by omega
  subst this
  unfold f90_4
  refine ⟨?_, hm⟩
  congr 1
  symm
  rw [List.all_eq_true]
  intro j hj
  exact hr j (by simpa using hj)
theorem eqInts_spec {w : World} (l1 l2 : List Int) (a1 a2 : Option Addr) (c1 c2 : Nat) (h1 : SlIs w a1 l1.length 1 (l1.map intV)) (h2 : SlIs w a2 l2.length 1 (l2.map intV)) (hn : l1.length ≤ 1073741824) :
  Meets Tryz.prog 92 #[.slice a1 l1.length c1, .slice a2 l2.length c2] w fun v w' => v = .bool (decide (l1 = l2)) ∧ Same w w' := by
 have law := rrW_law (fun p : Int => p) (fun p : Int => p) l1 l2
 simp only [List.map_id'] at law
 rw [← law]
 clear law
 refine f92_ok ?_
 unfold f92
 rw [klen_slice, klen_slice, kint_neq, kB_bool]
 refine kIf_dec (fun hne => ?_) (fun heq => ?_)
 ·exact ⟨by rw [decide_eq_false (by omega), Bool.false_and], Mod.refl _ _⟩
 have hl : l1.length = l2.length := by omega
 rw [decide_eq_true hl, Bool.true_and]
 unfold f92_0
 rw [klen_slice]
 refine kL_of (EqInvW l1.length (rrW (fun p : Int => p) (fun p : Int => p) l1 l2) w) (fun x _ => l1.length - (RowKit.intOf x).toNat) ⟨⟨0, by omega, rfl, by simp, Mod.refl _ _⟩, ?_⟩
 rintro x wr ⟨i, hi, rfl, hr, hm⟩
 unfold f92_1
 rw [kint_lss, kB_bool]
 refine kIf_dec (fun hlt => ?_) (fun hge => ?_)
 ·have hlt : i < l1.length := by omega
  unfold f92_2
  refine kixld_of (F := intV) (h1.same hm) hlt rfl ?_
  refine kG_of rfl ?_
  refine kixld_of (F := intV) (h2.same hm) (show i < l2.length by omega) rfl ?_
  refine kG_of rfl ?_
  rw [intV, intV, kint_neq]
  have hr' := rrW_at (fun p : Int => p) (fun p : Int => p) l1 l2 i hlt (by omega)
  rw [kB_bool]
  refine kIf_dec (fun hb => ?_) (fun hb => ?_)
  ·refine ⟨?_, hm.drew⟩
   congr 1
   symm
   rw [List.all_eq_false]
   exact ⟨i, by simpa using hlt, by rw [hr']; simpa using hb⟩
  ·unfold f92_3
   rw [kint_add, i64_succ (by omega)]
   refine ⟨⟨i + 1, by omega, rfl, fun j hj => ?_, hm.drew⟩, by simp [RowKit.intOf]; omega⟩
   by_cases e : j = i
   ·rw [e, hr']; simpa using hb
   ·exact hr j (by omega)
 ·have : i = l1.length := by omega
  subst this
  unfold f92_4
  refine ⟨?_, hm⟩
  congr 1
  symm
  rw [List.all_eq_true]
  intro j hj
  exact hr j (by simpa using hj)
def EFInv (n : Nat) (r : Nat → Bool) (w : World) (x : Value) (wr : World) : Prop := ∃ i : Nat, i ≤ n ∧ x = .int .i64 i ∧ (∀ j, j < i → r j = true) ∧ Same w wr
theorem EqualFunc_spec {w : World} (l1 l2 : List BeV) (a1 a2 : Option Addr) (c1 c2 : Nat) (h1 : SlIs w a1 l1.length 2 (l1.flatMap BeV.cells)) (h2 : SlIs w a2 l2.length 2 (l2.flatMap BeV.cells)) (hn : l1.length ≤ 1073741824) (f : FuncId) (r : Nat → Bool)
  (hf : ∀ i (i1 : i < l1.length) (i2 : i < l2.length) w', Same w w' → Meets Tryz.prog f #[.agg l1[i].cells.toArray, .agg l2[i].cells.toArray] w' fun v w'' => v = .bool (r i) ∧ Same w' w'') :
  Meets Tryz.prog 91 #[.slice a1 l1.length c1, .slice a2 l2.length c2, .func (.func f) #[] #[]] w fun v w' => v = .bool (decide (l1.length = l2.length) && (List.range l1.length).all r) ∧ Same w w' := by
 refine f91_ok ?_
 unfold f91
 rw [klen_slice, klen_slice, kint_neq, kB_bool]
 refine kIf_dec (fun hne => ?_) (fun heq => ?_)
 ·exact ⟨by rw [decide_eq_false (by omega), Bool.false_and], Mod.refl _ _⟩
 have hl : l1.length = l2.length := by omega
 rw [decide_eq_true hl, Bool.true_and]
 unfold f91_0
 rw [klen_slice]
 refine kL_of (EFInv l1.length r w) (fun x _ => l1.length - (RowKit.intOf x).toNat) ⟨⟨0, by omega, rfl, by simp, Mod.refl _ _⟩, ?_⟩
 rintro x wr ⟨i, hi, rfl, hr, hm⟩
 unfold f91_1
 rw [kint_lss, kB_bool]
 refine kIf_dec (fun hlt => ?_) (fun hge => ?_)
 ·have hlt : i < l1.length := by omega
  unfold f91_2
  refine kixldN_of (F := BeV.cells) (fun _ => rfl) (by omega) (h1.same hm) hlt rfl ?_
  refine knew_of fun w12 h12 hs12 hb12 => ?_
  refine kst_of (vs := l1[i].cells) hb12 rfl rfl rfl (by simp) (by simp [BeV.cells]) fun w13 h13 hs13 hb13 => ?_
  have hm13 : Same wr w13 := Mod.after h12 h13 (fun b hb => by omega)
  refine kixldN_of (F := BeV.cells) (fun _ => rfl) (by omega) (h2.same (hm.trans hm13)) (show i < l2.length by omega) rfl ?_
  refine knew_of fun w17 h17 hs17 hb17 => ?_
  refine kst_of (vs := (l2[i]'(by omega)).cells) hb17 rfl rfl rfl (by simp) (by simp [BeV.cells]) fun w18 h18 hs18 hb18 => ?_
  have hm18 : Same w13 w18 := Mod.after h17 h18 (fun b hb => by omega)
  have hb13' : blk w13 wr.heap.size = some (.cells l1[i].cells.toArray 167) := hb13
  have hb18' : blk w18 w13.heap.size = some (.cells (l2[i]'(by omega)).cells.toArray 167) := hb18
  refine kldN_of (cs := l1[i].cells) (hm18.get hb13' (fun h => h)) (by simp [BeV.cells]) rfl (by omega) ?_
  refine kldN_of (cs := (l2[i]'(by omega)).cells) hb18' (by simp [BeV.cells]) rfl (by omega) ?_
  have hmw := hm.trans (hm13.trans hm18)
  refine kcallC_of' (hf i hlt (by omega) w18 hmw) ?_
  rintro v w22 ⟨rfl, h22⟩
  rw [kun_not, kB_bool]
  refine kIf_of (fun hb => ?_) (fun hb => ?_)
  ·have hb : r i = false := by simpa using hb
   refine ⟨?_, hmw.trans h22⟩
   congr 1
   symm
   rw [List.all_eq_false]
   exact ⟨i, by simpa using hlt, by rw [hb]; decide⟩
  ·have hb : r i = true := by simpa using hb
   unfold f91_3
   rw [kint_add, i64_succ (by omega)]
   refine ⟨⟨i + 1, by omega, rfl, fun j hj => ?_, hmw.trans h22⟩, by simp [RowKit.intOf]; omega⟩
   by_cases e : j = i
   ·rw [e]; exact hb
   ·exact hr j (by omega)
 ·have : i = l1.length := by omega
  subst this
  unfold f91_4
  refine ⟨?_, hm⟩
  congr 1
  symm
  rw [List.all_eq_true]
  intro j hj
  exact hr j (by simpa using hj)
structure BeOk (w : World) (b : BeV) : Prop where
 ok : ∀ q ∈ b.parts, q.ok
 sl : SlIs w b.pa b.parts.length 6 (b.parts.flatMap Part.cells)
 few : b.parts.length ≤ 1073741824
theorem BeOk.same {w w' : World} {b : BeV} (h : BeOk w b) (m : Same w w') : BeOk w' b := ⟨h.ok, h.sl.same m, h.few⟩
theorem same1_spec {w : World} (x y : BeV) (hx : BeOk w x) (hy : BeOk w y) :
  Meets Tryz.prog 89 #[.agg x.cells.toArray, .agg y.cells.toArray] w fun v w' => v = .bool (decide (x.key = y.key)) ∧ Same w w' := by
 have hdec : decide (x.key = y.key) = (decide ((x.id : Int) = (y.id : Int)) && decide (x.parts = y.parts)) := by
  rw [Bool.eq_iff_iff, Bool.and_eq_true, decide_eq_true_eq, decide_eq_true_eq, decide_eq_true_eq]
  unfold BeV.key
  rw [Prod.mk.injEq]
  constructor
  ·rintro ⟨h1, h2⟩; exact ⟨by omega, h2⟩
  ·rintro ⟨h1, h2⟩; exact ⟨by omega, h2⟩
 rw [hdec]
 refine f89_ok ?_
 unfold f89
 refine knew_of fun w2 h2 hs2 hb1 => ?_
 refine knew_of fun w4 h4 hs4 hb3 => ?_
 have hb1 := h4.get hb1 (fun h => h)
 have m4 := h2.trans h4
 refine kfld_of ?_
 refine kld_of (v := .int .i64 (x.id : Int)) hb1 rfl ?_
 refine kfld_of ?_
 refine kld_of (v := .int .i64 (y.id : Int)) hb3 rfl ?_
 rw [kint_eql, kB_bool]
 refine kIf_dec (fun e => ?_) (fun e => ?_)
 ·rw [decide_eq_true e, Bool.true_and]
  refine kfld_of ?_
  refine kld_of (v := .slice x.pa x.parts.length x.pc) hb1 rfl ?_
  refine kfld_of ?_
  refine kld_of (v := .slice y.pa y.parts.length y.pc) hb3 rfl ?_
  refine kcall_of (eqParts_spec x.parts y.parts hx.ok hy.ok _ _ _ _ (hx.sl.same m4) (hy.sl.same m4) hx.few) ?_
  rintro v w' ⟨rfl, h'⟩
  exact ⟨rfl, m4.trans h'⟩
 ·exact ⟨by rw [decide_eq_false e, Bool.false_and], m4⟩
deriving instance DecidableEq for StM
def StV.ok (s : StV) : Prop := s.bl.length ≤ 1073741824 ∧ s.R.length ≤ 1073741824 ∧ ∀ b ∈ s.bl, (∀ q ∈ b.parts, q.ok) ∧ b.parts.length ≤ 1073741824
theorem Same_spec {lo lo' : Nat} {w : World} (s t : StV) (hs : StAt lo w s) (ht : StAt lo' w t) (ks : s.ok) (kt : t.ok) :
  Meets Tryz.prog 33 #[s.val, t.val] w fun v w' => v = .bool (decide (s.m = t.m)) ∧ Same w w' := by
 have hdec : decide (s.m = t.m) = (decide (s.frame = t.frame) && (decide ((s.next : Int) = (t.next : Int)) && (decide (s.seed = t.seed) && (decide (s.bl.map BeV.key = t.bl.map BeV.key) && decide (s.R = t.R))))) := by
  rw [Bool.eq_iff_iff]
  simp only [Bool.and_eq_true, decide_eq_true_eq]
  unfold StV.m
  rw [StM.mk.injEq]
  constructor
  ·rintro ⟨h1, h2, h3, h4, h5⟩; exact ⟨h1, by omega, h3, h4, h5⟩
  ·rintro ⟨h1, h2, h3, h4, h5⟩; exact ⟨h1, by omega, h3, h4, h5⟩
 have sb : ∀ {w'}, Same w w' → ∀ b ∈ s.bl, BeOk w' b := fun m b hb => ⟨(ks.2.2 b hb).1, (hs.ps b hb).same m, (ks.2.2 b hb).2⟩
 have tb : ∀ {w'}, Same w w' → ∀ b ∈ t.bl, BeOk w' b := fun m b hb => ⟨(kt.2.2 b hb).1, (ht.ps b hb).same m, (kt.2.2 b hb).2⟩
 rw [hdec]
 refine f33_ok ?_
 unfold f33
 refine knew_of fun w2 h2 hs2 hb1 => ?_
 refine knew_of fun w4 h4 hs4 hb3 => ?_
 have hb1 := h4.get hb1 (fun h => h)
 have m4 := h2.trans h4
 refine kfld_of ?_
 refine kld_of (v := .int .i64 s.frame) hb1 rfl ?_
 refine kfld_of ?_
 refine kld_of (v := .int .i64 t.frame) hb3 rfl ?_
 rw [kint_eql, kB_bool]
 refine kIf_dec (fun e => ?_) (fun e => ⟨by rw [decide_eq_false e, Bool.false_and], m4⟩)
 rw [decide_eq_true e, Bool.true_and]
 refine kfld_of ?_
 refine kld_of (v := .int .i64 (s.next : Int)) hb1 rfl ?_
 refine kfld_of ?_
 refine kld_of (v := .int .i64 (t.next : Int)) hb3 rfl ?_
 rw [kint_eql, kB_bool]
 refine kIf_dec (fun e => ?_) (fun e => ⟨by rw [decide_eq_false e, Bool.false_and], m4⟩)
 rw [decide_eq_true e, Bool.true_and]
 refine kfld_of ?_
 refine kld_of (v := .int .i64 s.seed) hb1 rfl ?_
 refine kfld_of ?_
 refine kld_of (v := .int .i64 t.seed) hb3 rfl ?_
 rw [kint_eql, kB_bool]
 refine kIf_dec (fun e => ?_) (fun e => ⟨by rw [decide_eq_false e, Bool.false_and], m4⟩)
 rw [decide_eq_true e, Bool.true_and]
 refine kfld_of ?_
 refine kld_of (v := .slice s.xa s.bl.length s.xc) hb1 rfl ?_
 refine kfld_of ?_
 refine kld_of (v := .slice t.xa t.bl.length t.xc) hb3 rfl ?_
 refine kcall_of (EqualFunc_spec s.bl t.bl _ _ _ _ (hs.xs.same m4) (ht.xs.same m4) ks.1 89 (rrW BeV.key BeV.key s.bl t.bl) fun i i1 i2 w' hw' => ?_) ?_
 ·rw [rrW_at BeV.key BeV.key s.bl t.bl i i1 i2]
  exact same1_spec _ _ (sb (m4.trans hw') _ (List.getElem_mem i1)) (tb (m4.trans hw') _ (List.getElem_mem i2))
 rintro v w28 ⟨rfl, h28⟩
 rw [rrW_law, kB_bool]
 have m28 := m4.trans h28
 refine kIf_of (fun e => ?_) (fun e => ⟨by rw [e, Bool.false_and], m28⟩)
 rw [e, Bool.true_and]
 have hb1 := h28.get hb1 (fun h => h)
 have hb3 := h28.get hb3 (fun h => h)
 refine kfld_of ?_
 refine kld_of (v := .slice s.ra s.R.length s.rc) hb1 rfl ?_
 refine kfld_of ?_
 refine kld_of (v := .slice t.ra t.R.length t.rc) hb3 rfl ?_
 refine kcall_of (eqInts_spec s.R t.R _ _ _ _ (hs.rs.same m28) (ht.rs.same m28) ks.2.1) ?_
 rintro v w' ⟨rfl, h'⟩
 exact ⟨rfl, m28.trans h'⟩
end
section
def okV (V : ViewT) : Prop := ∀ y ∈ V, ∀ q ∈ y.2, q.ok
theorem WdAt.few {c : WC} {w0 : World} {fx : Nat → Prop} {w : World} {S : SM} {t : Nat} {B : BdM} (h : WdAt c w0 fx w S t B) : ∀ y ∈ viewS S B, y.2.length ≤ 32 := by
 intro y hy
 obtain ⟨x, hx, rfl⟩ := List.mem_map.1 hy
 obtain ⟨i, hi, hg⟩ := h.link.live x hx
 obtain ⟨o, p, U, C, _⟩ := h.A
 obtain ⟨n, r, _, _, _, _, _, _, hm, _⟩ := parts_ok C.sp C.gs hg
 have e := congrArg List.length hm
 rw [List.length_map, List.length_map] at e
 have := listF_len S.masks[n]
 show (partsOf S x.2.i.toNat).length ≤ 32
 rw [hi, Int.toNat_natCast]
 omega
theorem WdAt.le {c : WC} {w0 : World} {fx : Nat → Prop} {w : World} {S : SM} {t : Nat} {B : BdM} (h : WdAt c w0 fx w S t B) : B.l.length ≤ 64 := h.link.le h.gs.g64
theorem stV_ok {c : WC} {V : ViewT} {nx : Nat} {s : StV} (hm : s.m = stM c V nx) (hV : V.length ≤ 64) (hok : okV V) (hf : ∀ y ∈ V, y.2.length ≤ 32) (hR : c.R.length ≤ 1000000) : s.ok := by
 unfold StV.m stM at hm
 rw [StM.mk.injEq] at hm
 obtain ⟨_, _, _, h4, h5⟩ := hm
 refine ⟨?_, by rw [h5]; omega, fun b hb => ?_⟩
 ·have := congrArg List.length h4
  unfold rbV at this
  rw [List.length_map, List.length_map] at this
  omega
 ·have : b.key ∈ rbV c.rolled V := h4 ▸ List.mem_map.2 ⟨b, hb, rfl⟩
  obtain ⟨y, hy, e⟩ := List.mem_map.1 this
  have e2 : y.2.filter (rbC c.rolled) = b.parts := congrArg Prod.snd e
  refine ⟨fun q hq => ?_, ?_⟩
  ·rw [← e2] at hq
   exact hok y hy q (List.mem_filter.1 hq).1
  ·rw [← e2]
   have := List.length_filter_le (rbC c.rolled) y.2
   have := hf y hy
   omega
theorem pState {c : WC} {w0 : World} {o : OC} {X : Nat → Prop} {w : World} {S : SM} {t : Nat} {B : BdM} {l : List OrdM} {gv dr : Nat} (h : Pair c w0 o X w S t B l gv dr) (hok : okV (viewS S B)) (hR : c.R.length ≤ 1000000) :
  Meets Tryz.prog 32 #[.pointer (some ⟨c.bw, 0, none⟩)] w fun v w' => ∃ s : StV, v = s.val ∧ StAt w.heap.size w' s ∧ s.m = stM c (viewS S B) B.nx ∧ s.ok ∧ Same w w' := by
 obtain ⟨⟨fx, U, hW, hO, hU, hX⟩, h0⟩ := h
 refine (wState hW hW.le hR).mono ?_
 rintro v w' ⟨s, rfl, hs, hm, h'⟩
 exact ⟨s, rfl, hs, hm, stV_ok hm (by rw [viewS_len]; exact hW.le) hok hW.few hR, h'⟩
theorem WdAt.base {c : WC} {w00 w0 : World} {fx : Nat → Prop} {w : World} {S : SM} {t : Nat} {B : BdM} (h : WdAt c w0 fx w S t B) (m : Same w00 w0) : WdAt c w00 (fun k => fx k ∨ (w00.heap.size ≤ k ∧ k < w0.heap.size)) w S t B := by
 have hz := m.size
 obtain ⟨o, p, U, C, hb, hU, hf⟩ := h.A
 have hzw := C.same.size
 refine ⟨h.here, fun k hk => .inl (h.fm k hk), h.comps, h.gh, h.go, h.rvc, h.good, h.rl, ⟨o, p, U, ⟨C.sp, C.gs, fun k hk => C.lo k (by omega), C.hi, m.trans C.same⟩, hb, fun k hk => ⟨by have := (hU k hk).1; omega, (hU k hk).2.1, fun hx => ?_⟩, fun k hk => ?_⟩, h.link, h.cs⟩
 ·rcases hx with hx | hx
  ·exact (hU k hk).2.2 hx
  ·have := (hU k hk).1; omega
 ·rcases hk with hk | hk
  ·exact ⟨by have := (hf k hk).1; omega, (hf k hk).2⟩
  ·exact ⟨hk.1, by omega, C.lo k hk.2⟩
structure PS where
 S : SM
 t : Nat
 B : BdM
 l : List OrdM
 gv : Nat
def PS.V (a : PS) : ViewT := viewS a.S a.B
def Pair.at (c : WC) (w0 : World) (o : OC) (X : Nat → Prop) (w : World) (a : PS) : Prop := Pair c w0 o X w a.S a.t a.B a.l a.gv 0
structure Two (ca cb : WC) (w0 : World) (oa ob : OC) (Xa Xb E : Nat → Prop) (w : World) (a b : PS) : Prop where
 pa : Pair.at ca w0 oa Xa w a
 pb : Pair.at cb w0 ob Xb w b
 all : ∀ k, w0.heap.size ≤ k → k < w.heap.size → Xa k ∨ Xb k
 ma : ∀ k, ca.mine k → Xb k
 mb : ∀ k, cb.mine k → Xa k
 ea : ∀ k, E k → Xa k
 eb : ∀ k, E k → Xb k
def newB (w w' : World) (X : Nat → Prop) : Nat → Prop := fun k => X k ∨ (w.heap.size ≤ k ∧ k < w'.heap.size)
theorem Two.left {ca cb : WC} {w0 : World} {oa ob : OC} {Xa Xb E : Nat → Prop} {w w' : World} {a a' b : PS} (h : Two ca cb w0 oa ob Xa Xb E w a b) (hp : Pair.at ca w0 oa Xa w' a') (m : Mod (fun k => w0.heap.size ≤ k ∧ ¬ Xa k) w w') : Two ca cb w0 oa ob Xa (newB w w' Xb) E w' a' b where
 pa := hp
 pb := Pair.grow h.pb (fp := fun k => (w0.heap.size ≤ k ∧ ¬ Xa k) ∧ k < w.heap.size) (m.mono fun k hk e => ⟨e, hk⟩) fun k hk => ⟨(h.all k hk.1.1 hk.2).resolve_left hk.1.2, fun e => hk.1.2 (h.mb k e)⟩
 all k h1 h2 := by
  rcases Nat.lt_or_ge k w.heap.size with h3 | h3
  ·exact (h.all k h1 h3).imp id .inl
  ·exact .inr (.inr ⟨h3, h2⟩)
 ma k hk := .inl (h.ma k hk)
 mb := h.mb
 ea := h.ea
 eb k hk := .inl (h.eb k hk)
theorem Two.right {ca cb : WC} {w0 : World} {oa ob : OC} {Xa Xb E : Nat → Prop} {w w' : World} {a b b' : PS} (h : Two ca cb w0 oa ob Xa Xb E w a b) (hp : Pair.at cb w0 ob Xb w' b') (m : Mod (fun k => w0.heap.size ≤ k ∧ ¬ Xb k) w w') : Two ca cb w0 oa ob (newB w w' Xa) Xb E w' a b' where
 pa := Pair.grow h.pa (fp := fun k => (w0.heap.size ≤ k ∧ ¬ Xb k) ∧ k < w.heap.size) (m.mono fun k hk e => ⟨e, hk⟩) fun k hk => ⟨(h.all k hk.1.1 hk.2).resolve_right hk.1.2, fun e => hk.1.2 (h.ma k e)⟩
 pb := hp
 all k h1 h2 := by
  rcases Nat.lt_or_ge k w.heap.size with h3 | h3
  ·exact (h.all k h1 h3).imp .inl id
  ·exact .inl (.inr ⟨h3, h2⟩)
 ma := h.ma
 mb k hk := .inl (h.mb k hk)
 ea k hk := .inl (h.ea k hk)
 eb := h.eb
theorem Two.put {ca cb : WC} {w0 : World} {oa ob : OC} {Xa Xb E : Nat → Prop} {w w' : World} {a b : PS} (h : Two ca cb w0 oa ob Xa Xb E w a b) {fp : Nat → Prop} (m : Mod fp w w') (hf : ∀ k, fp k → E k ∧ ¬ ca.mine k ∧ ¬ cb.mine k) : Two ca cb w0 oa ob (newB w w' Xa) (newB w w' Xb) (newB w w' E) w' a b where
 pa := Pair.grow h.pa m fun k hk => ⟨h.ea k (hf k hk).1, (hf k hk).2.1⟩
 pb := Pair.grow h.pb m fun k hk => ⟨h.eb k (hf k hk).1, (hf k hk).2.2⟩
 all k h1 h2 := by
  rcases Nat.lt_or_ge k w.heap.size with h3 | h3
  ·exact (h.all k h1 h3).imp .inl .inl
  ·exact .inl (.inr ⟨h3, h2⟩)
 ma k hk := .inl (h.ma k hk)
 mb k hk := .inl (h.mb k hk)
 ea k hk := hk.imp (h.ea k) id
 eb k hk := hk.imp (h.eb k) id
theorem Two.new {ca cb : WC} {w0 w1 wb w2 w3 w4 w5 w6 : World} {oa ob : OC} {Sa Sb : SM} {Ba Bb : BdM} (ha : WdAt ca w0 ca.mine w1 Sa 0 Ba) (mb : Same w1 wb) (hb : WdAt cb wb cb.mine w2 Sb 0 Bb) (m3 : Same w2 w3) (h0a : 0 < oa.L.length) (hoa : OAt oa (fun k => w3.heap.size ≤ k) w4 [] 0 0) (m4 : Same w3 w4) (m5 : Same w4 w5) (h0b : 0 < ob.L.length) (hob : OAt ob (fun k => w5.heap.size ≤ k) w6 [] 0 0) (m6 : Same w5 w6) :
  ∃ Xa Xb, Two ca cb w0 oa ob Xa Xb (fun _ => False) w6 ⟨Sa, 0, Ba, [], 0⟩ ⟨Sb, 0, Bb, [], 0⟩ := by
 have s01 := ha.A.same0
 have sb2 := hb.A.same0
 have z01 := s01.size
 have z1b := mb.size
 have zb2 := sb2.size
 have z23 := m3.size
 have z34 := m4.size
 have z45 := m5.size
 have z56 := m6.size
 have ha3 := ha.ext (mb.trans (sb2.trans m3))
 have pa4 := Pair.new h0a ha3 m4 hoa
 have pa6 := pa4.grow (m5.trans m6) fun k hk => hk.elim
 have hb2 := hb.base (s01.trans mb)
 have hb5 := hb2.ext (m3.trans (m4.trans m5))
 have pb6 := Pair.new h0b hb5 m6 hob
 refine ⟨_, _, pa6, pb6, fun k h1 h2 => ?_, fun k hk => ?_, fun k hk => ?_, fun k hk => hk.elim, fun k hk => hk.elim⟩
 ·rcases Nat.lt_or_ge k wb.heap.size with h3 | h3
  ·exact .inr (.inl (.inr ⟨h1, h3⟩))
  ·rcases Nat.lt_or_ge k w3.heap.size with h4 | h4
   ·exact .inl (.inl (.inr ⟨by omega, h4⟩))
   ·rcases Nat.lt_or_ge k w5.heap.size with h5 | h5
    ·exact .inr (.inr ⟨by omega, h5⟩)
    ·exact .inl (.inr ⟨by omega, h2⟩)
 ·have := ha.A.lt hk
  exact .inl (.inr ⟨this.1, by omega⟩)
 ·have := hb.A.lt hk
  exact .inl (.inr ⟨by omega, by omega⟩)
end
section
attribute [local irreducible] kO kB kStr kInt kN kG kIf kfld kld kldN kst knew kmap kbld kbldS kext kcnv klenStr klen kcap kprt kprtN kbool kint kstr keq kun ksl kix kiv kta kmk kmm ksem ksemU kextf kcallV kcallM kcall kL
theorem oAdd_nil {pr : Nat → Prop} {Sa : Nat → Addr} {w : World} (hL : LaidP pr Sa w) (h2 : pr 2) (x : OrdM) :
  Meets Tryz.prog 24 #[.pointer none, x.val] w fun v w' => ErrX Sa 2 w.heap.size v w' ∧ Same w w' := by
 unfold OrdM.val
 refine f24_ok ?_
 unfold f24
 refine knew_of fun w2 m2 hs2 hb2 => ?_
 rw [keq_ptr_nil ptOrd]
 refine kB_at ?_
 refine kIf_T rfl ?_
 refine kld_err (hL.same m2) h2 rfl rfl ?_
 refine kcall_of (oWrong (ErrX.sent Sa 2 w.heap.size w2) m2.size) ?_
 rintro v w7 ⟨hE, h7⟩
 exact ⟨hE, m2.trans h7⟩
theorem oTurn_nil (w : World) : Meets Tryz.prog 27 #[.pointer none] w fun v w' => w' = w := by
 refine f27_ok ?_
 unfold f27
 rw [keq_ptr_nil' ptOrd]
 refine kB_at ?_
 refine kIf_F rfl ?_
 rfl
theorem oGiven_nil (w : World) : Meets Tryz.prog 28 #[.pointer none] w fun v w' => v = .int .i64 0 ∧ w' = w := by
 refine f28_ok ?_
 unfold f28
 rw [keq_ptr_nil ptOrd]
 refine kB_at ?_
 refine kIf_T rfl ?_
 exact ⟨rfl, rfl⟩
theorem oDropped_nil (w : World) : Meets Tryz.prog 29 #[.pointer none] w fun v w' => v = .int .i64 0 ∧ w' = w := by
 refine f29_ok ?_
 unfold f29
 rw [keq_ptr_nil ptOrd]
 refine kB_at ?_
 refine kIf_T rfl ?_
 exact ⟨rfl, rfl⟩
theorem oList_nil (w : World) : Meets Tryz.prog 30 #[.pointer none] w fun v w' => v = .slice none 0 0 ∧ w' = w := by
 refine f30_ok ?_
 unfold f30
 rw [keq_ptr_nil ptOrd]
 refine kB_at ?_
 refine kIf_T rfl ?_
 exact ⟨rfl, rfl⟩
theorem oFlush_err {pr : Nat → Prop} {Sa : Nat → Addr} {w w2 : World} (hL : LaidP pr Sa w) (h2 : pr 2) (m2 : Same w w2) (hs : w2.heap.size = w.heap.size + 1) (hb : blk w2 w.heap.size = some (.cells #[.int .i64 0, .int .i64 0] 75)) (x0 x1 : Value) :
  f26_0 x0 x1 (.pointer (some ⟨w.heap.size, 0, none⟩)) (.bool true) (fun v w' => (∃ e, v = .tuple #[.agg #[.int .i64 0, .int .i64 0], e] ∧ ErrX Sa 2 w.heap.size e w') ∧ Same w w') w2 := by
 unfold f26_0
 refine kB_at ?_
 refine kIf_T rfl ?_
 refine kbld_of (cs := [.int .i64 0, .int .i64 0]) rfl ?_
 refine kld_err (hL.same m2) h2 rfl rfl ?_
 refine kcall_of (oWrong (ErrX.sent Sa 2 (w.heap.size + 1) w2) (by omega)) ?_
 rintro v w11 ⟨hE, h11⟩
 refine kst_of (vs := [.int .i64 0, .int .i64 0]) (h11.get hb (fun h => h)) rfl rfl rfl (by simp) (by simp) fun w12 h12 hs12 hb12 => ?_
 have hb12 : blk w12 w.heap.size = some (.cells #[.int .i64 0, .int .i64 0] 75) := hb12
 refine kldN_at (cs := [.int .i64 0, .int .i64 0]) hb12 rfl (by omega) ?_
 exact ⟨⟨_, rfl, (hE.mod h12 fun b hlo _ e => by omega).mono (by omega)⟩, (m2.trans h11).trans' (h12.mono fun k _ e => .inr (by omega))⟩
theorem oFlush_nil {pr : Nat → Prop} {Sa : Nat → Addr} {w : World} (hL : LaidP pr Sa w) (h2 : pr 2) (x1 : Value) :
  Meets Tryz.prog 26 #[.pointer none, x1] w fun v w' => (∃ e, v = .tuple #[.agg #[.int .i64 0, .int .i64 0], e] ∧ ErrX Sa 2 w.heap.size e w') ∧ Same w w' := by
 refine f26_ok ?_
 unfold f26
 refine knew_of fun w2 m2 hs2 hb2 => ?_
 rw [keq_ptr_nil ptOrd]
 refine kB_at ?_
 refine kIf_F rfl ?_
 exact oFlush_err hL h2 m2 hs2 hb2 _ _
theorem oFlush_nilw {pr : Nat → Prop} {Sa : Nat → Addr} {w : World} (hL : LaidP pr Sa w) (h2 : pr 2) (b : Nat) :
  Meets Tryz.prog 26 #[.pointer (some ⟨b, 0, none⟩), .pointer none] w fun v w' => (∃ e, v = .tuple #[.agg #[.int .i64 0, .int .i64 0], e] ∧ ErrX Sa 2 w.heap.size e w') ∧ Same w w' := by
 refine f26_ok ?_
 unfold f26
 refine knew_of fun w2 m2 hs2 hb2 => ?_
 rw [keq_ptr_nil ptOrd]
 refine kB_at ?_
 refine kIf_T rfl ?_
 rw [keq_ptr_nil ptWor]
 exact oFlush_err hL h2 m2 hs2 hb2 _ _
theorem view_none {S : SM} {B : BdM} {x : Int} (h : findV (viewS S B) x = none) : B.l.find? (fun y => decide (((y.1 : Nat) : Int) = x)) = none := by
 rw [findV_view] at h
 cases hf : B.l.find? (fun y => decide (((y.1 : Nat) : Int) = x)) with
 | none => rfl
 | some y => rw [hf] at h; cases h
theorem sl_modLt {fp : Nat → Prop} {w w' : World} {a : Option Addr} {n sz : Nat} {vs : List Value} (hsz : 0 < sz) (h : SlIs w a n sz vs) (m : Mod fp w w') (hf : ∀ k f, a = some ⟨k, f, none⟩ → k < w.heap.size → ¬ fp k) : SlIs w' a n sz vs := by
 cases n with
 | zero => exact ⟨h.1, .inl rfl⟩
 | succ n => exact h.mod m fun k f e => hf k f e (sl_lt h (by omega) hsz k f e)
theorem StAt.modLt {lo : Nat} {fp : Nat → Prop} {w w' : World} {s : StV} (h : StAt lo w s) (m : Mod fp w w') (hf : ∀ k, lo ≤ k → k < w.heap.size → ¬ fp k) : StAt lo w' s :=
 ⟨sl_modLt (by omega) h.xs m fun k f e => hf k (h.xlo k f e), fun b hb => sl_modLt (by omega) (h.ps b hb) m fun k f e => hf k (h.plo b hb k f e), sl_modLt (by omega) h.rs m fun k f e => hf k (h.rlo k f e), h.xlo, h.plo, h.rlo⟩
theorem waitF : flushF smallC 8 0 [⟨2, 1, 0, 0⟩, ⟨1, 0, 3, 0⟩] (([(1, [])], 2), 0, 0) = (([(2, [⟨0, 4, 5, 0, 0, 0⟩, ⟨1, 0, 0, 0, 0, 0⟩])], 3), 2, 0) := by kernel_rfl
theorem wait_end {pr : Nat → Prop} {Sa : Nat → Addr} {w w0 wr : World} (hs0 : Same w w0) (hD : DeAt w0) (hL : LaidP pr Sa w0) (h2 : pr 2) (h6 : pr 6) (h7 : pr 7) (h9 : pr 9) (h17 : pr 17) {c : WC} {o : OC} (hcL : c.L = smallC) (hcf : c.frame = 0) (hoL : o.L = smallC) (hom : o.most = 4) {S : SM} {B : BdM} (hV : viewS S B = [(1, [])]) (hn : B.nx = 2) (hg : S.gens.length = 8) (P : Pair c w0 o (fun _ => False) wr S 1 B [] 0 0) :
  f5_11 (.pointer (some ⟨c.bw, 0, none⟩)) (.int .i64 1) (.pointer (some ⟨o.bo, 0, none⟩)) (fun v w' => v = .bool true ∧ Same w w') wr := by
 have fit : ∀ x : OrdM, x.fit 3 → x.fit o.L.length := fun x hx => by rw [hoL]; exact hx
 unfold f5_11
 refine kbld_of (cs := (⟨2, 1, 0, 0⟩ : OrdM).cells) rfl ?_
 refine kcall_of (pAdd_ok P ⟨2, 1, 0, 0⟩ (by unfold OrdM.ok I64; simp) (fit _ (by unfold OrdM.fit; simp)) (by rw [hom]; omega) (by rw [hom]; omega) (by simp)) ?_
 rintro v w74 ⟨rfl, P74, m74⟩
 refine kbld_of (cs := (⟨1, 0, 3, 0⟩ : OrdM).cells) rfl ?_
 refine kcall_of (pAdd_ok P74 ⟨1, 0, 3, 0⟩ (by unfold OrdM.ok I64; simp) (fit _ (by unfold OrdM.fit; simp)) (by rw [hom]; omega) (by rw [hom]; omega) (by simp)) ?_
 rintro v w77 ⟨rfl, P77, m77⟩
 refine kcall_of (oFlush hL h6 h7 h9 h17 hD (by rw [hoL, hcL]) P77 (by show 1 + 2 ≤ _; omega) (by rw [hn]; show 2 + 2 ≤ _; omega)) ?_
 rintro v w79 ⟨S2, B2, d, f, rfl, _, hfl, _, _, P79, m79⟩
 rw [hg, hcf, hcL, hV, hn] at hfl
 have hfl := waitF.symm.trans hfl
 have hv2 : viewS S2 B2 = [(2, [⟨0, 4, 5, 0, 0, 0⟩, ⟨1, 0, 0, 0, 0, 0⟩])] := (congrArg (fun z => z.1.1) hfl).symm
 have hd : 2 = d := congrArg (fun z => z.2.1) hfl
 have hf : 0 = f := congrArg (fun z => z.2.2) hfl
 subst hd hf
 have s79 := P79.same0
 have hL79 := hL.same s79
 obtain ⟨⟨fx, U, hW, _, _, _⟩, _⟩ := P79
 refine kext_at rfl ?_
 refine kext_at rfl ?_
 refine knew_of fun w83 h83 hs83 hb83 => ?_
 refine kst_of (vs := [natV 2, natV 0]) hb83 rfl rfl rfl (by simp) (by simp) fun w84 h84 hs84 hb84 => ?_
 have hb84 : blk w84 w79.heap.size = some (.cells #[natV 2, natV 0] 75) := hb84
 have m84 : Same w79 w84 := h83.trans' (h84.mono fun k _ e => .inr (by omega))
 refine kcall_of (wParts_dead hL h17 (hW.loc m84) (view_none (S := S2) (B := B2) (x := 1) (by rw [hv2]; rfl))) ?_
 rintro v w86 ⟨⟨e1, rfl, hE1⟩, h86⟩
 refine kext_at rfl ?_
 refine kext_at rfl ?_
 refine add_at (by omega) (by omega) ?_
 obtain ⟨y, hfy, hye⟩ := view_find (S := S2) (B := B2) (x := 1 + 1) (z := (2, [⟨0, 4, 5, 0, 0, 0⟩, ⟨1, 0, 0, 0, 0, 0⟩])) (by rw [hv2]; rfl)
 have hpy : partsOf S2 y.2.i.toNat = [⟨0, 4, 5, 0, 0, 0⟩, ⟨1, 0, 0, 0, 0, 0⟩] := (congrArg Prod.snd hye).symm
 refine kcall_of (wParts_ok (hW.loc (m84.trans h86)) hfy) ?_
 rintro v w91 ⟨s, rfl, hOs, _, h91⟩
 rw [hpy] at hOs
 obtain ⟨pa, pn, pc, rfl, hps, _⟩ := hOs.is
 have hpn : pn = 2 := by
  have h1 := hps.1
  simp [Part.cells] at h1
  omega
 subst hpn
 refine kext_at rfl ?_
 refine kext_at rfl ?_
 refine kcall_of (oTurn_nil w91) ?_
 rintro v w95 rfl
 have m95 := m84.trans (h86.trans h91)
 refine kcall_of (oFlush_nil (hL79.same m95) h2 _) ?_
 rintro v w97 ⟨⟨e2, rfl, hE2⟩, h97⟩
 refine kext_at rfl ?_
 refine kext_at rfl ?_
 refine knew_of fun w101 h101 hs101 hb101 => ?_
 refine kst_of (vs := [.int .i64 0, .int .i64 0]) hb101 rfl rfl rfl (by simp) (by simp) fun w102 h102 hs102 hb102 => ?_
 have m102 : Same w97 w102 := h101.trans' (h102.mono fun k _ e => .inr (by omega))
 refine kcall_of (oFlush_nilw (hL79.same (m95.trans (h97.trans m102))) h2 _) ?_
 rintro v w104 ⟨⟨e3, rfl, hE3⟩, h104⟩
 refine kext_at rfl ?_
 refine kext_at rfl ?_
 refine knew_of fun w108 h108 hs108 hb108 => ?_
 refine kst_of (vs := [.int .i64 0, .int .i64 0]) hb108 rfl rfl rfl (by simp) (by simp) fun w109 h109 hs109 hb109 => ?_
 have m109 : Same w104 w109 := h108.trans' (h109.mono fun k _ e => .inr (by omega))
 have md : Same w109 w109.drew := (Mod.refl (fun _ => False) _).drew
 have n104 := m109.trans md
 have n97 := m102.trans (h104.trans n104)
 have n91 := h97.trans n97
 have n86 := h91.trans n91
 have n84 := h86.trans n86
 have hE1 := hE1.same n86
 have hE2 := hE2.same n97
 have hE3 := hE3.same n104
 have hb84 := n84.get hb84 (fun h => h)
 have hLd := hL79.same (m84.trans n84)
 have sd := hs0.trans (s79.trans (m84.trans n84))
 generalize w109.drew = wd at *
 rw [keq_nil_nil ifErr]
 refine kG_of rfl ?_
 refine kB_at ?_
 refine kIf_T rfl ?_
 refine kfld_of ?_
 refine kld_of (v := natV 2) hb84 rfl ?_
 refine kG_of rfl ?_
 refine eql_at ?_
 rw [decT (by rfl)]
 refine kB_at ?_
 refine kIf_T rfl ?_
 refine kld_err hLd h17 rfl rfl ?_
 refine kG_of rfl ?_
 refine kcall_of (isX_spec hLd h17 h17 hE1) ?_
 rintro v w119 ⟨rfl, rfl⟩
 rw [decT rfl]
 refine kB_at ?_
 refine kIf_T rfl ?_
 rw [keq_nil_nil ifErr]
 refine kG_of rfl ?_
 refine kB_at ?_
 refine kIf_T rfl ?_
 refine klen_at ?_
 refine eql_at ?_
 rw [decT (by rfl)]
 refine kB_at ?_
 refine kIf_T rfl ?_
 refine kld_err hLd h2 rfl rfl ?_
 refine kG_of rfl ?_
 refine kcall_of (isX_spec hLd h2 h2 hE2) ?_
 rintro v w130 ⟨rfl, rfl⟩
 rw [decT rfl]
 refine kB_at ?_
 refine kIf_T rfl ?_
 refine kld_err hLd h2 rfl rfl ?_
 refine kG_of rfl ?_
 refine kcall_of (isX_spec hLd h2 h2 hE3) ?_
 rintro v w134 ⟨rfl, rfl⟩
 rw [decT rfl]
 refine kB_at ?_
 refine kIf_T rfl ?_
 refine kbld_of (cs := (⟨0, 0, 0, 0⟩ : OrdM).cells) rfl ?_
 refine kcall_of (oAdd_nil hLd h2 ⟨0, 0, 0, 0⟩) ?_
 rintro v w138 ⟨hE4, h138⟩
 have hL138 := hLd.same h138
 refine kld_err hL138 h2 rfl rfl ?_
 refine kG_of rfl ?_
 refine kG_of (kld_err hLd h2 rfl rfl ⟨rfl, rfl⟩) ?_
 refine kcall_of (isX_spec hL138 h2 h2 hE4) ?_
 rintro v w141 ⟨rfl, rfl⟩
 rw [decT rfl]
 refine kB_at ?_
 refine kIf_T rfl ?_
 refine kcall_of (oGiven_nil _) ?_
 rintro v w144 ⟨rfl, rfl⟩
 refine kcall_of (oDropped_nil _) ?_
 rintro v w146 ⟨rfl, rfl⟩
 refine add_at (by omega) (by omega) ?_
 refine kcall_of (oList_nil _) ?_
 rintro v w149 ⟨rfl, rfl⟩
 refine klen_at ?_
 refine add_at (by omega) (by omega) ?_
 refine eql_at ?_
 exact ⟨rfl, sd.trans h138⟩
theorem wait_spec {pr : Nat → Prop} {Sa : Nat → Addr} {w : World} (hD : DeAt w) (hL : LaidP pr Sa w) (h1 : pr 1) (h2 : pr 2) (h6 : pr 6) (h7 : pr 7) (h9 : pr 9) (h17 : pr 17) {a0 : Option Addr} {l : List OrdM} {cp : Nat} (hs : SlIs w a0 l.length 4 (l.flatMap OrdM.cells)) (hok : ∀ x ∈ l, x.ok) :
  Meets Tryz.prog 5 #[.slice a0 l.length cp] w fun v w' => v = .bool true ∧ Same w w' := by
 refine f5_ok ?_
 unfold f5
 refine kcall_of (awake15_spec hD hL h1 h6 h7 h9 h17) ?_
 rintro v w2 ⟨rfl, h2w⟩
 refine not_at ?_
 refine kB_at ?_
 refine kIf_F rfl ?_
 unfold f5_0
 refine klen_at ?_
 refine gtr_at ?_
 refine kB_at ?_
 refine kIf_dec (fun hg => ⟨rfl, h2w⟩) (fun hg => ?_)
 have hl : l.length ≤ 60 := by omega
 unfold f5_1
 refine kcall_of (small15_spec w2) ?_
 rintro v w8 ⟨a8, c8, rfl, hs8, h8⟩
 have m8 := h2w.trans h8
 refine kcall_of (wNew (hD.same m8) hs8 smallC_good (by rw [smallC_len]; omega) (most := 8) (by omega) 1) ?_
 rintro v w10 ⟨c, rfl, hcL, hcf, hcs, hcr, hcR, hW10⟩
 refine kext_at rfl ?_
 refine kext_at rfl ?_
 refine kcall_of (small15_spec w10) ?_
 rintro v w14 ⟨a14, c14, rfl, hs14, h14⟩
 refine kcall_of (oNew hs14 smallC_good (by rw [smallC_len]; omega) (most := 64) (by omega)) ?_
 rintro v w16 ⟨o, rfl, hoL, hom, hO16, h16⟩
 refine kext_at rfl ?_
 refine kext_at rfl ?_
 have h0 : 0 < o.L.length := by rw [hoL, smallC_len]; omega
 have P16 := (Pair.new h0 (hW10.loc h14) h16 hO16).less (X' := fun _ => False) fun k hk => hk.elim
 have hL8 := hL.same m8
 have hD8 := hD.same m8
 rw [keq_ptr_nil ptWor]
 refine kB_at ?_
 refine kIf_T rfl ?_
 rw [keq_ptr_nil ptOrd]
 refine kB_at ?_
 refine kIf_T rfl ?_
 rw [keq_nil_nil' ifErr]
 refine kB_at ?_
 refine kIf_T rfl ?_
 rw [keq_nil_nil' ifErr]
 unfold f5_2
 refine kB_at ?_
 refine kIf_F rfl ?_
 unfold f5_3
 refine kcall_of (pSpawn0 hL8 h6 hD8 P16 (by omega) (by show (1 : Nat) ≤ _; omega) (by rw [newS_view, newS_len]; show 0 < 8; omega)) ?_
 rintro v w31 ⟨rfl, S1, B1, hv1, hn1, hg1, P31, m31⟩
 rw [newS_len] at hg1
 rw [newS_view] at hv1
 have hv1 : viewS S1 B1 = [(1, [])] := hv1
 have hn1 : B1.nx = 2 := hn1
 have hok1 : okV (viewS S1 B1) := by
  rw [hv1]
  intro y hy q hq
  have : y = (1, []) := by simpa using hy
  subst this; cases hq
 refine kext_at rfl ?_
 refine kext_at rfl ?_
 refine kcall_of (pState P31 hok1 (by rw [hcR]; simp)) ?_
 rintro v w35 ⟨s, rfl, hst, hsm, hsok, h35⟩
 refine knew_of fun w37 h37 hs37 hb37 => ?_
 refine kst_of (vs := s.cells) hb37 rfl rfl rfl (by simp [StV.cells]) (by simp [StV.cells]) fun w38 h38 hs38 hb38 => ?_
 have hb38 : blk w38 w35.heap.size = some (.cells s.cells.toArray 87) := hb38
 have m38 : Same w35 w38 := h37.trans' (h38.mono fun k _ e => .inr (by omega))
 have hlt38 := lt_of_blk hb38
 have hz35 := h35.size
 have P38 := P31.grow (h35.trans m38) fun k hk => hk.elim
 have hst38 := hst.same m38
 refine kL1_of l.length (fun i y wr => y = .int .i64 i ∧ ∃ la gv, Pair c w8 o (fun k => False ∨ (w31.heap.size ≤ k ∧ k < w38.heap.size)) wr S1 1 B1 la gv 0 ∧ la.length = gv ∧ gv ≤ i ∧ Mod (fun k => w8.heap.size ≤ k ∧ ¬ (False ∨ (w31.heap.size ≤ k ∧ k < w38.heap.size))) w38 wr) ⟨lI1_0 ⟨rfl, [], 0, P38, rfl, by omega, Mod.refl _ _⟩, fun y wr hx => ?_⟩
 obtain ⟨i, hi, ⟨rfl, la, gv, P, hla, hgv, hmr⟩, hJ⟩ := lI1_step hx
 have s0 := m8.trans P.same0
 unfold f5_4
 refine klen_at ?_
 refine lss_at ?_
 refine kB_at ?_
 refine kIf_dec (fun hlt => ?_) (fun hge => ?_)
 ·have hlt : i < l.length := by omega
  have hxo := hok _ (List.getElem_mem hlt)
  unfold f5_5
  refine kixldN_of (F := OrdM.cells) (sz := 4) (fun _ => rfl) (by omega) (hs.same s0) hlt rfl ?_
  have hcell : Value.agg (l[i]).cells.toArray = (l[i]).val := rfl
  rw [hcell]
  generalize l[i] = x at *
  by_cases hf : x.fit o.L.length
  ·refine kcall_of (pAdd_ok P x hxo hf (by rw [hom]; omega) (by rw [hom]; omega) (by omega)) ?_
   rintro v w45 ⟨rfl, P45, m45⟩
   unfold f5_6
   refine add_at (by omega) (by omega) ?_
   rw [cast_succ]
   exact hJ _ _ hlt ⟨rfl, la ++ [x], gv + 1, P45, by rw [List.length_append, List.length_singleton, hla], by omega, hmr.trans m45⟩
  ·refine kcall_of (pAdd_bad hL8 h1 P x hxo hf) ?_
   rintro v w45 ⟨hE, h45⟩
   unfold f5_6
   refine add_at (by omega) (by omega) ?_
   rw [cast_succ]
   exact hJ _ _ hlt ⟨rfl, la, gv, P.loc h45, hla, by omega, hmr.trans (Mod.of_same h45)⟩
 ·have hbr := hmr.get hb38 (fun hk => hk.2 (.inr ⟨by omega, hlt38⟩))
  have hstr := hst38.modLt hmr fun k h1 h2 hk => hk.2 (.inr ⟨h1, h2⟩)
  unfold f5_7
  have md : Same wr wr.drew := (Mod.refl (fun _ => False) _).drew
  have Pd := P.loc md
  have hbd := md.get hbr (fun h => h)
  have hstd := hstr.same md
  have sd := s0.trans md
  generalize wr.drew = wd at *
  refine kldN_at (cs := s.cells) hbd rfl (by omega) ?_
  refine kG_of rfl ?_
  refine kcall_of (pState Pd hok1 (by rw [hcR]; simp)) ?_
  rintro v w49 ⟨s2, rfl, hst2, hsm2, hsok2, h49⟩
  refine kG_of (kldN_at (cs := s.cells) (h49.get hbd (fun h => h)) rfl (by omega) ⟨rfl, rfl⟩) ?_
  have hval : Value.agg s.cells.toArray = s.val := rfl
  rw [hval]
  refine kcall_of (Same_spec s s2 (hstd.same h49) hst2 hsok hsok2) ?_
  rintro v w51 ⟨rfl, h51⟩
  rw [decT (hsm.trans hsm2.symm)]
  refine not_at ?_
  refine kB_at ?_
  refine kIf_T rfl ?_
  have P51 := Pd.loc (h49.trans h51)
  refine kcall_of (pList P51 (by omega)) ?_
  rintro v w55 ⟨⟨al, cl, rfl, _⟩, h55⟩
  refine klen_at ?_
  have P55 := P51.loc h55
  refine kcall_of (pGiven P55) ?_
  rintro v w59 ⟨rfl, rfl⟩
  refine neq_at ?_
  rw [decF (by rw [hla]; simp)]
  unfold f5_8
  refine kB_at ?_
  refine kIf_F rfl ?_
  unfold f5_9
  refine kcall_of (small15_spec w59) ?_
  rintro v w62 ⟨a62, c62, rfl, hs62, h62⟩
  refine kcall_of (oNew hs62 smallC_good (by rw [smallC_len]; omega) (most := 4) (by omega)) ?_
  rintro v w64 ⟨oq, rfl, hqL, hqm, hOq, h64⟩
  refine kext_at rfl ?_
  refine kext_at rfl ?_
  rw [keq_ptr_nil ptOrd]
  refine kB_at ?_
  refine kIf_T rfl ?_
  rw [keq_nil_nil' ifErr]
  unfold f5_10
  refine kB_at ?_
  refine kIf_F rfl ?_
  obtain ⟨⟨fx, U, hW, _, _, _⟩, _⟩ := P55
  have Pq := (Pair.new (by rw [hqL, smallC_len]; omega) (hW.loc h62) h64 hOq).less (X' := fun _ => False) fun k hk => hk.elim
  exact wait_end m8 hD8 hL8 h2 h6 h7 h9 h17 hcL hcf hqL hqm hv1 hn1 hg1 Pq
end
end Go.Proofs.YtmidldeaapdjoaaGreatDoor
namespace Go.Proofs.YtmidldeaapdjoaaGreatDoor
open Go Go.Ev Go.RowKit Go.ChangeShapes Go.WideShapes Go.ChangeAt
section
namespace ST
theorem door_met (os : Os) (args : Array Value) : laidMetH Tryz.prog Rows.ordersWaitRow.laid ((World.doorLaid Tryz.prog 195 os).forCall (fun _ _ => 0) ⟨#[], args, []⟩).memory :=
 laidMetH_of_parts3 (fuel := 8) (laidMet_of_run' 8 (by kernel_rfl) (by kernel_rfl)) (by kernel_rfl) (by kernel_rfl)
theorem lifted (os : Os) (started : os.Started) (H : Type) (enc : TypeId × Value → H) :
  ReturnsInHanded {} Tryz.checked os 5 .any (fun w args => (Rows.ordersWaitSpec.pre enc Tryz.prog Tryz.f5 [] false w args ∧ laidMetH Tryz.prog Rows.ordersWaitRow.laid w) ∧ sizedMet enc Tryz.prog Tryz.f5 (OpenSpec.ofChange Rows.ordersWaitSpec) false w args)
   (Rows.ordersWaitSpec.post enc Tryz.prog Tryz.f5 false true false false) := by
 refine returnsInHanded_of_change_and (C := Tryz.checked) (X := fun w _ => laidMetH Tryz.prog Rows.ordersWaitRow.laid w) (fun _ _ _ hh h => h.of_heap hh) own started (by kernel_rfl) Tryz.func5
  (ChangeSpec.witness_shaped (enc := enc) (C := Tryz.checked) (os := os) (X := fun w _ => laidMetH Tryz.prog Rows.ordersWaitRow.laid w) false (World.doorLaid Tryz.prog 195 os) #[.slice none 0 0] 8 rfl (World.shaped_of_RefB (by kernel_rfl) (by kernel_rfl)) (by kernel_rfl) (by kernel_rfl) (by kernel_rfl) (door_met os _)) ?_
 intro W base args ds gs before hval0 hW _ _ hL _
 have hval : ∀ (j : Nat) t v, Tryz.f5.params[j]? = some t → args[j]? = some v → Value.okWide Tryz.prog W .any base t v := hval0
 have hW' := hW
 obtain ⟨p, q, hA0, hV, rfl, hfz, hnd⟩ := hW
 have hA : DataW.TrodAll enc Tryz.prog W 0 (fun _ => true) true Tryz.f5.params.toList args.toList ds p := hA0
 rw [Tryz.params5] at hA hval
 obtain ⟨v0, vs0, d0, ds0, p0, q0, hargs, rfl, rfl, h0, r0⟩ := trodAll_cons hA
 obtain ⟨rfl, rfl, rfl⟩ := trodAll_nil r0
 obtain rfl : args = #[v0] := by cases args; simp_all
 obtain ⟨rfl, rfl⟩ := trodVars_none hV
 have hlt : ∀ x ∈ p0 ++ [] ++ [], x.block < W.heap.size := fun x hx => hW'.lt x hx
 obtain ⟨a4, n4, c4', e4⟩ := okWide_slice Tryz.underlying79 (hval 0 79 v0 rfl rfl)
 obtain ⟨ta, la, ca, ea, hok, hap⟩ := ords_of (rd_of_Trod h0 9)
 obtain rfl : v0 = .slice ta la.length ca := by
  subst e4
  simpa [Value.cells] using ea
 obtain ⟨⟨S, hS⟩, hD⟩ := laid_of hL
 have hmet := wait_spec hD hS (by decide) (by decide) (by decide) (by decide) (by decide) (by decide) (cp := ca) hap hok
 refine hmet.2.mono fun e W' he => ?_
 obtain ⟨v, rfl, rfl, hsame⟩ := he
 have bel := hsame.below
 exact ⟨_, rfl, _, _, _, [], _, [], hW', trodAll_mk1 (shut_bool Tryz.underlying4 _),
  trodAll_cons_mk (Below.trod laidOut (by kernel_rfl) (of_decide_eq_true (by kernel_rfl)) h0 bel fun x hx => hlt x (by simp [hx])) trodAll_mk0, rfl, bel.frame _, fun h => by cases h⟩
end ST
end
end Go.Proofs.YtmidldeaapdjoaaGreatDoor
