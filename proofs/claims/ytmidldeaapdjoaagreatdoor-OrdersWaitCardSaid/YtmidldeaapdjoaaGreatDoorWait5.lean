/-
Lemmas for the statements of this seat: no statement of the seat is proved in this part (5 of 6); the conditions stand in each theorem.
-/
import Derived.Test.YtmidldeaapdjoaaGreatDoorWait4
import Derived.Shelf.Slices.Delete
import Derived.Test.YtmidldeaapdjoaaGreatDoorProg
set_option linter.unusedSimpArgs false
set_option linter.unusedVariables false
set_option maxRecDepth 100000
namespace Go.Proofs.YtmidldeaapdjoaaGreatDoor
open Go Go.Ev
section
attribute [local irreducible] kO kB kStr kInt kN kG kIf kfld kld kldN kst knew kmap kbld kbldS kext kcnv klenStr klen kcap kprt kprtN kbool kint kstr keq kun ksl kix kiv kta kmk kmm ksem ksemU kextf kcallV kcallM kcall kL
theorem find_append {α : Type} (p : α → Bool) (l : List α) (x : α) : (l ++ [x]).find? p = (l.find? p).or (if p x then some x else none) := by
 rw [List.find?_append]
 congr 1
 simp only [List.find?_cons, List.find?_nil]
 cases p x <;> rfl
theorem BdM.own_none {B : BdM} {n : Int} : B.own n = none ↔ ∀ x ∈ B.l, ((x.1 : Nat) : Int) ≠ n := by
 unfold BdM.own
 rw [Option.map_eq_none_iff, List.find?_eq_none]
 simp
theorem BdM.ids_none {B : BdM} {e : EK} : B.ids e = none ↔ ∀ x ∈ B.l, x.2 ≠ e := by
 unfold BdM.ids
 rw [Option.map_eq_none_iff, List.find?_eq_none]
 simp
theorem BdM.own_snoc (B : BdM) (n nx : Nat) (e : EK) (h : B.own n = none) : (BdM.mk (B.l ++ [(n, e)]) nx).own = fun m => if m = ((n : Nat) : Int) then some e.v else B.own m := by
 funext m
 show ((B.l ++ [(n, e)]).find? fun x => decide (((x.1 : Nat) : Int) = m)).map (fun x => x.2.v) = _
 rw [find_append]
 by_cases hm : m = ((n : Nat) : Int)
 ·subst hm
  have : (B.l.find? fun x => decide (((x.1 : Nat) : Int) = ((n : Nat) : Int))) = none := by
   unfold BdM.own at h
   exact Option.map_eq_none_iff.1 h
  rw [this, if_pos rfl]
  simp
 ·rw [if_neg hm]
  unfold BdM.own
  have : decide (((n : Nat) : Int) = m) = false := decF (fun e => hm e.symm)
  simp only [this]
  cases (B.l.find? fun x => decide (((x.1 : Nat) : Int) = m)) <;> rfl
theorem BdM.ids_snoc (B : BdM) (n nx : Nat) (e : EK) (h : B.ids e = none) : (BdM.mk (B.l ++ [(n, e)]) nx).ids = fun m => if m = e then some (natV n) else B.ids m := by
 funext m
 show ((B.l ++ [(n, e)]).find? fun x => decide (x.2 = m)).map (fun x => natV x.1) = _
 rw [find_append]
 by_cases hm : m = e
 ·subst hm
  have : (B.l.find? fun x => decide (x.2 = m)) = none := by
   unfold BdM.ids at h
   exact Option.map_eq_none_iff.1 h
  rw [this, if_pos rfl]
  simp
 ·rw [if_neg hm]
  unfold BdM.ids
  have : decide (e = m) = false := decF (fun e => hm e.symm)
  simp only [this]
  cases (B.l.find? fun x => decide (x.2 = m)) <;> rfl
theorem bdOwn {U : Nat → Prop} {w : World} {b : Nat} {B : BdM} {bo bi : Nat} {sv nx : Value} (h : BdQ U w b B bo bi sv) {w1 : World} (hb : blk w1 b = some (.cells #[.map (some bo), .map (some bi), sv, nx] 225)) (ho : MapV intF w1 bo B.own) (hi : MapV EK.v w1 bi B.ids) (hs : Own w1 sv 1 (B.nums.map nV)) (hle : B.l.length < 64) (e : EK) (he : B.ids e = none) :
  Meets Tryz.prog 133 #[.pointer (some ⟨b, 0, none⟩), natV B.nx, e.v] w1 fun v w' => v = .tuple #[] ∧ ∃ sv', blk w' b = some (.cells #[.map (some bo), .map (some bi), sv', nx] 225) ∧ MapV intF w' bo (BdM.mk (B.l ++ [(B.nx, e)]) (B.nx + 1)).own ∧ MapV EK.v w' bi (BdM.mk (B.l ++ [(B.nx, e)]) (B.nx + 1)).ids ∧
   Own w' sv' 1 ((BdM.mk (B.l ++ [(B.nx, e)]) (B.nx + 1)).nums.map nV) ∧ (∀ k, vblk sv' k → vblk sv k ∨ w1.heap.size ≤ k) ∧ Mod (fun k => k = b ∨ k = bo ∨ k = bi ∨ vblk sv k) w1 w' := by
 have hsO := hs
 obtain ⟨sa, sn, sc, rfl, hsl, hsn⟩ := hs.is
 have hsn : sn = B.nums.length := by simpa using hsn rfl
 subst hsn
 have hnl : B.nums.length = B.l.length := by unfold BdM.nums; simp
 obtain ⟨hnb, hnb2, hnv⟩ := h.apart
 have ne := h.ne
 have ns := h.ns
 have lb := lt_of_blk hb
 have lo := ho.lt
 have li := hi.lt
 rw [natV]
 refine f133_ok ?_
 unfold f133
 refine knew_of fun w2 h2 hs2 hb2 => ?_
 have he2 : blk w2 w1.heap.size = some (.cells #[.int .i64 e.i, .int .i64 e.g] 37) := hb2
 have hbw2 := h2.get hb (fun h => h)
 refine kN_at ?_
 refine kfld_of ?_
 refine kld_at hbw2 rfl ?_
 refine kcall_of (bsearchG (by omega) (hsl.same h2) h.wf.ascI (B.nx : Int)) ?_
 rintro v w6 ⟨h6, k, hk, hk1, hk2, rfl⟩
 have hkl : k = B.nums.length := by
  by_cases hlt : k < B.nums.length
  ·have h1 := hk2 k hlt (Nat.le_refl _)
   have hkL : k < B.l.length := by omega
   have h2 : B.nums[k] = ((B.l[k].1 : Nat) : Int) := by simp [BdM.nums]
   have := h.wf.lt _ (List.getElem_mem hkL)
   omega
  ·omega
 subst hkl
 have m6 := h2.trans h6
 have hbw6 := m6.get hb (fun h => h)
 refine kext_at rfl ?_
 refine kext_at rfl ?_
 refine kN_at ?_
 refine kfld_of ?_
 refine kld_at hbw6 rfl ?_
 refine kbldS_of (cs := [.int .i64 ((B.nx : Nat) : Int)]) rfl fun w12 h12 hs12 hb12 => ?_
 have m12 := m6.trans h12
 have hO12 := hsO.same m12
 have hlen : (B.nums.map nV).length = B.nums.length := by simp
 refine kcall_of (by have := insert_end hO12 (by rw [hlen]; omega) (x := ((B.nx : Nat) : Int)) hb12; rw [hlen, natV] at this; exact this) ?_
 rintro v w14 ⟨hO14, h14, hf14⟩
 have eN : B.nums.map nV ++ [Value.int .i64 ((B.nx : Nat) : Int)] = (BdM.mk (B.l ++ [(B.nx, e)]) (B.nx + 1)).nums.map nV := by unfold BdM.nums; simp [nV]
 rw [eN] at hO14
 obtain ⟨va, vn, vc, rfl, _, _⟩ := hO14.is
 have hbw14 := h14.get (m12.get hb (fun h => h)) (fun hk => ns _ hk rfl)
 have he14 := h14.get ((h6.trans h12).get he2 (fun h => h)) (fun hk => by have := hsO.vblk_lt hk; omega)
 have ho14 := (ho.same m12).mod h14 (fun hk => (hnv _ hk).1 rfl)
 have hi14 := (hi.same m12).mod h14 (fun hk => (hnv _ hk).2 rfl)
 refine kN_at ?_
 refine kfld_of ?_
 refine kst_of (vs := [.slice va vn vc]) hbw14 rfl rfl rfl (by simp) (by simp) fun w16 h16 hs16 hb16 => ?_
 have hbw16 : blk w16.drew b = some (.cells #[.map (some bo), .map (some bi), .slice va vn vc, nx] 225) := hb16
 have hd16 : Mod (fun k => k = b) w14 w16.drew := h16.drew
 have he16 := hd16.get he14 (by omega)
 have ho16 := ho14.mod hd16 hnb
 have hi16 := hi14.mod hd16 hnb2
 have hz12 := m12.size
 have hO16 := hO14.mod hd16 (fun k hk e => by
  rcases hf14 k hk with h | h
  ·exact ns k h e
  ·omega)
 generalize w16.drew = wa at *
 refine kN_at ?_
 refine kfld_of ?_
 refine kld_at hbw16 rfl ?_
 refine kG_of rfl ?_
 refine kN_at ?_
 refine kfld_of ?_
 refine kld_at hbw16 rfl ?_
 refine kG_of rfl ?_
 refine kldN_at (cs := [.int .i64 e.i, .int .i64 e.g]) he16 rfl (by omega) ?_
 refine kG_of rfl ?_
 refine kldN_at (cs := [.int .i64 e.i, .int .i64 e.g]) he16 rfl (by omega) ?_
 refine kG_of rfl ?_
 have hon : B.own (B.nx : Int) = none := BdM.own_none.2 fun x hx => by have := (h.wf.lt x hx).2; omega
 refine kmapEntryV (F := intF) Tryz.underlying222 keyInt' zEnt0 ho16 ((B.nx : Nat) : Int) fun w24 s24 h24 hs24 hm24 => ?_
 have hz16 := hd16.size
 have hz14 := h14.size
 have he24 := h24.get he16 (by omega)
 rw [hon]
 refine kG_of (kldN_at (cs := [.int .i64 e.i, .int .i64 e.g]) he24 rfl (by omega) ⟨rfl, rfl⟩) ?_
 refine kG_of (kldN_at (cs := [.int .i64 e.i, .int .i64 e.g]) he24 rfl (by omega) ⟨rfl, rfl⟩) ?_
 refine kext_at rfl ?_
 refine kentryStoreV (F := intF) hm24 fun w26 h26 hs26 hm26 => ?_
 have he26 := h26.get he24 (by omega)
 refine kG_of (kldN_at (cs := [.int .i64 e.i, .int .i64 e.g]) he26 rfl (by omega) ⟨rfl, rfl⟩) ?_
 have m26 : Mod (fun k => k = bo) wa w26 := h24.trans h26
 have hi26 := hi16.mod m26 (fun h => ne h.symm)
 refine kmapEntryV (F := EK.v) Tryz.underlying223 keyEK zInt0 hi26 e fun w28 s28 h28 hs28 hm28 => ?_
 rw [he]
 refine kext_at rfl ?_
 refine kentryStoreV (F := EK.v) hm28 fun w30 h30 hs30 hm30 => ?_
 have m30 : Mod (fun k => k = bi) w26 w30 := h28.trans h30
 refine ⟨rfl, _, m30.get (m26.get hbw16 (fun h => hnb h.symm)) (fun h => hnb2 h.symm), ?_, ?_, ?_, fun k hk => ?_, ?_⟩
 ·rw [BdM.own_snoc B B.nx (B.nx + 1) e hon]
  exact hm26.mod m30 ne
 ·rw [BdM.ids_snoc B B.nx (B.nx + 1) e he]
  exact hm30
 ·refine (hO16.mod m26 fun k hk e => ?_).mod m30 fun k hk e => ?_
  ·rcases hf14 k hk with h | h
   ·exact (hnv k h).1 e
   ·omega
  ·rcases hf14 k hk with h | h
   ·exact (hnv k h).2 e
   ·omega
 ·rcases hf14 k hk with h | h
  ·exact .inl h
  ·exact .inr (by omega)
 ·exact (Mod.of_same m12).trans ((h14.mono fun k _ h => .inr (.inr (.inr h))).trans ((hd16.mono fun k _ h => .inl h).trans ((m26.mono fun k _ h => .inr (.inl h)).trans (m30.mono fun k _ h => .inr (.inr (.inl h))))))
theorem bdGive {U : Nat → Prop} {w : World} {b : Nat} {B : BdM} (h : BdAt U w b B) (e : EK) (he : B.ids e = none) (hle : B.l.length < 64) (hnx : B.nx ≤ 1073741824) :
  Meets Tryz.prog 83 #[.pointer (some ⟨b, 0, none⟩), e.v] w fun v w' => v = .tuple #[natV B.nx, .nilIface] ∧ BdAt (fun k => U k ∨ w.heap.size ≤ k) w' b ⟨B.l ++ [(B.nx, e)], B.nx + 1⟩ ∧ Mod U w w' := by
 have hA := h
 obtain ⟨bo, bi, sv, h⟩ := h
 refine f83_ok ?_
 unfold f83
 refine knew_of fun w2 h2 hs2 hb2 => ?_
 have he2 : blk w2 w.heap.size = some (.cells #[.int .i64 e.i, .int .i64 e.g] 37) := hb2
 refine kldN_at (cs := [.int .i64 e.i, .int .i64 e.g]) he2 rfl (by omega) ?_
 refine kcall_of (bdID (hA.same h2) e) ?_
 rintro v w5 ⟨rfl, h5⟩
 rw [he]
 refine kext_at rfl ?_
 refine kext_at rfl ?_
 rw [keq_ptr_nil ptBad]
 refine kB_at ?_
 refine kIf_F rfl ?_
 refine kB_at ?_
 refine kIf_F rfl ?_
 have m5 := h2.trans h5
 have h5' := h.mod m5 (fun _ _ h => h)
 have he5 := h5.get he2 (fun h => h)
 have hh := h5'.here
 rw [natV] at hh ⊢
 refine kN_at ?_
 refine kfld_of ?_
 refine kld_of (v := .int .i64 ((B.nx : Nat) : Int)) hh rfl ?_
 refine gtr_at ?_
 rw [decF (by omega)]
 refine kB_at ?_
 refine kIf_F rfl ?_
 unfold f83_0
 refine kN_at ?_
 refine kfld_of ?_
 refine kld_of (v := .int .i64 ((B.nx : Nat) : Int)) hh rfl ?_
 refine kN_at ?_
 refine kfld_of ?_
 refine kld_of (v := .int .i64 ((B.nx : Nat) : Int)) hh rfl ?_
 refine add_at (by omega) (by omega) ?_
 refine kN_at ?_
 refine kfld_of ?_
 refine kst_of (vs := [.int .i64 (((B.nx : Nat) : Int) + 1)]) hh rfl rfl rfl (by simp) (by simp) fun w28 h28 hs28 hb28 => ?_
 have hb28 : blk w28 b = some (.cells #[.map (some bo), .map (some bi), sv, .int .i64 (((B.nx : Nat) : Int) + 1)] 225) := hb28
 obtain ⟨hnb, hnb2, hnv⟩ := h.apart
 have lb := lt_of_blk h.here
 have he28 := h28.get he5 (by omega)
 refine kldN_at (cs := [.int .i64 e.i, .int .i64 e.g]) he28 rfl (by omega) ?_
 refine kcall_of (bdOwn h hb28 (h5'.own.mod h28 hnb) (h5'.ids.mod h28 hnb2) (h5'.nums.mod h28 fun k hk => h5'.ns k hk) hle e he) ?_
 rintro v w31 ⟨rfl, sv', g1, g2, g3, g4, g5, g6⟩
 have hz5 := m5.size
 refine ⟨rfl, ⟨bo, bi, sv', ?_, g2, g3, g4, .inl h.ub, .inl h.uo, .inl h.ui, fun k hk => ?_, h.ne, fun k hk => ?_, ?_, by simp; omega⟩, ?_⟩
 ·have : (((B.nx : Nat) : Int) + 1) = ((B.nx + 1 : Nat) : Int) := by omega
  rw [this] at g1
  exact g1
 ·rcases g5 k hk with h1 | h1
  ·exact .inl (h.us k h1)
  ·exact .inr (by omega)
 ·rcases g5 k hk with h1 | h1
  ·exact h.ns k h1
  ·omega
 ·refine ⟨?_, fun x hx => ?_, ?_, Nat.le_succ_of_le h.wf.pos⟩
  ·rw [List.map_append, List.pairwise_append]
   refine ⟨h.wf.asc, by simp, fun x hx y hy => ?_⟩
   obtain ⟨z, hz, rfl⟩ := List.mem_map.1 hx
   have := (h.wf.lt z hz).2
   simp at hy
   omega
  ·rcases List.mem_append.1 hx with h1 | h1
   ·have := h.wf.lt x h1
    exact ⟨this.1, Nat.lt_succ_of_lt this.2⟩
   ·have hx1 : x = (B.nx, e) := by simpa using h1
    subst hx1
    have hnx1 : 1 ≤ B.nx := h.wf.pos
    exact ⟨hnx1, Nat.lt_succ_self _⟩
  ·rw [List.map_append]
   refine List.nodup_append.2 ⟨h.wf.nd, by simp, fun x hx y hy e1 => ?_⟩
   obtain ⟨z, hz, rfl⟩ := List.mem_map.1 hx
   have hy1 : y = e := by simpa using hy
   exact BdM.ids_none.1 he z hz (by rw [e1, hy1])
 ·refine (Mod.of_same m5).trans ((h28.mono fun k _ e => by rw [e]; exact h.ub).trans (g6.mono fun k _ e => ?_))
  rcases e with rfl | rfl | rfl | e
  ·exact h.ub
  ·exact h.uo
  ·exact h.ui
  ·exact h.us k e
end
section
attribute [local irreducible] kO kB kStr kInt kN kG kIf kfld kld kldN kst knew kmap kbld kbldS kext kcnv klenStr klen kcap kprt kprtN kbool kint kstr keq kun ksl kix kiv kta kmk kmm ksem ksemU kextf kcallV kcallM kcall kL
end
section
def goneS (S : SM) (i : Nat) (g : Int) : SM := { S with gens := S.gens.set i (g, false), free := S.free ++ [i] }
theorem WFe.gone {S : SM} {i : Nat} (h : WFe S (· = i)) {g : Int} (hg : S.gens[i]? = some (g, true)) : WF (goneS S i g) ∧ ∀ j, partsOf (goneS S i g) j = partsOf S j := by
 have hil := (List.getElem?_eq_some_iff.1 hg).1
 have hne : ∀ j, j ≠ i → (S.gens.set i (g, false))[j]? = S.gens[j]? := fun j hj => by rw [List.getElem?_set_ne (fun e => hj e.symm)]
 refine ⟨⟨by show (S.gens.set i _).length = _; rw [List.length_set]; exact h.gs, fun j gj hgj _ => ?_, fun n T r e hT hr => ?_, h.cols⟩, fun j => rfl⟩
 ·have hgj : (S.gens.set i (g, false))[j]? = some (gj, true) := hgj
  by_cases hj : j = i
  ·subst hj
   rw [List.getElem?_set, if_pos rfl, if_pos hil] at hgj
   cases hgj
  ·rw [hne j hj] at hgj
   exact h.live j gj hgj hj
 ·obtain ⟨j, e1, e2, e3, e4⟩ := h.rows n T r e hT hr
  exact ⟨j, e1, fun h => h, by show (S.gens.set i (g, false))[j]? = _; rw [hne j e2]; exact e3, e4⟩
theorem FreeOk.gone {S : SM} (h : FreeOk S) {i : Nat} {g : Int} (hg : S.gens[i]? = some (g, true)) : FreeOk (goneS S i g) := by
 have hil := (List.getElem?_eq_some_iff.1 hg).1
 have hni : i ∉ S.free := fun hm => by
  obtain ⟨g', e⟩ := (h.2 i).1 hm
  rw [hg] at e; cases e
 refine ⟨List.nodup_append.2 ⟨h.1, by simp, fun a ha b hb e => by simp at hb; subst hb; subst e; exact hni ha⟩, fun j => ?_⟩
 show j ∈ S.free ++ [i] ↔ ∃ g', (S.gens.set i (g, false))[j]? = some (g', false)
 by_cases hj : j = i
 ·subst hj
  rw [List.getElem?_set, if_pos rfl, if_pos hil]
  exact ⟨fun _ => ⟨g, rfl⟩, fun _ => by simp⟩
 ·rw [List.getElem?_set_ne (fun e => hj e.symm), ← h.2 j]
  simp [hj]
end
section
attribute [local irreducible] kO kB kStr kInt kN kG kIf kfld kld kldN kst knew kmap kbld kbldS kext kcnv klenStr klen kcap kprt kprtN kbool kint kstr keq kun ksl kix kiv kta kmk kmm ksem ksemU kextf kcallV kcallM kcall kL
def TurnedX (X : Nat → Prop) (o : Lab) (w : World) (b : Nat) (S' : SM) (w' : World) : Prop := ∃ o' p', LabEq w o o' ∧ StoreP o' w' b p' S' ∧ Mod (FP o fun _ => True) w w' ∧ (∀ k, w'.heap.size ≤ k → o' k = none) ∧ ∀ k, X k → o' k = none
theorem TurnedX.t {X : Nat → Prop} {o : Lab} {w w' : World} {b : Nat} {S' : SM} (h : TurnedX X o w b S' w') : Turned o w b S' w' := by
 obtain ⟨o', p', h1, h2, h3, h4, _⟩ := h
 exact ⟨o', p', h1, h2, h3, h4⟩
theorem TurnedX.wrap {X : Nat → Prop} {o : Lab} {w w4 w5 w6 : World} {b : Nat} {S' : SM} (m : Same w w4) (t : TurnedX X (cutL o w.heap.size) w4 b S' w5) (hz : Mod (fun k => w.heap.size ≤ k ∧ k < w4.heap.size) w5 w6) : TurnedX X o w b S' w6 := by
 obtain ⟨o', p', hl, hP, hm, hc, hx⟩ := t
 have ml := m.size
 have hl' : LabEq w o (cutL o' w6.heap.size) := fun k hk => by
  have := hm.size
  have := hz.size
  have e := hl k (by omega)
  unfold cutL at *
  rw [if_pos (by omega), e, if_pos hk]
 refine ⟨cutL o' w6.heap.size, p', hl', hP.frame hz (fun k t e ⟨e1, e2⟩ => ?_) (fun k hk => ?_), ((Mod.of_same m).trans (hm.mono fun k _ hk => hk.cut.1)).trans' (hz.mono fun k _ hk => .inr hk.1), fun k hk => cutL_none hk, fun k hk => ?_⟩
 ·rw [hl k e2] at e
  rw [cutL_none e1] at e; cases e
 ·have := hz.size
  unfold cutL
  rw [if_pos (by omega)]
 ·unfold cutL
  split
  ·exact hx k hk
  ·rfl
theorem TurnedX.seq {X : Nat → Prop} {o o1 : Lab} {w w1 w2 w3 : World} {b : Nat} {S' : SM} (hl : LabEq w o o1) (hm : Mod (FP o fun _ => True) w w1) (m : Same w1 w2) (t : TurnedX X o1 w2 b S' w3) : TurnedX X o w b S' w3 := by
 obtain ⟨o', p', hl', hP, hm', hc, hx⟩ := t
 have hm2 := hm.trans (Mod.of_same m)
 exact ⟨o', p', hl.trans hl' hm2.size, hP, Mod.labs hm2 hl hm', hc, hx⟩
theorem despawn_at {o : Lab} {w : World} {b : Nat} {p : Ptrs} {S : SM} (h : StoreP o w b p S) {t : Nat} (hG : GS S t) {i : Nat} {g : Int} (hg : S.gens[i]? = some (g, true)) (hfl : S.free.length < S.gens.length) :
  Meets Tryz.prog 12 #[ptrV b, entV i g] w fun v w' => ∃ sv, v = .tuple #[sv, .nilIface] ∧ Own w' sv 6 ((partsOf S i).flatMap Part.cells) ∧ (∀ k, vblk sv k → w.heap.size ≤ k) ∧ ∃ S', GS S' t ∧ S'.gens = S.gens.set i (g, false) ∧ S'.free = S.free ++ [i] ∧ S'.cs = S.cs ∧ S'.masks = S.masks ∧ S'.tabs.length = S.tabs.length ∧
   (∀ j gj, j ≠ i → S.gens[j]? = some (gj, true) → partsOf S' j = partsOf S j) ∧ TurnedX (vblk sv) o w b S' w' := by
 obtain ⟨n, r, hs, hn, hr, hri, m, gm, hl, hm, hsm⟩ := hG.wf.stand hg (fun h => h)
 obtain ⟨w4, v4⟩ := WFe.leave hG.wf hs hn hr hri hl hm hsm
 obtain ⟨w5, v5⟩ := w4.gone (show (leaveS S n r m hn).gens[i]? = _ from hg)
 have hrl := hG.wf.rows_le (List.getElem?_eq_getElem hn)
 have hgs := hG.wf.gs
 have h64 := hG.g64
 have hpe := partsOf_eq hs (List.getElem?_eq_getElem hn)
 rw [ptrV]
 refine f12_ok ?_
 unfold f12
 refine knew_of fun w2 hm2 hs2 hb2 => ?_
 have hb2 : blk w2 w.heap.size = some (.cells #[.int .i64 i, .int .i64 g] 37) := hb2
 refine kldN_at hb2 rfl (by omega) ?_
 refine kcall_of (sSpot_spec (h.same hm2) hg hs) ?_
 rintro v wc ⟨rfl, hc⟩
 refine kext_at rfl ?_
 refine kext_at rfl ?_
 refine knew_of fun w9 h9 hs9 hb9 => ?_
 refine kst_of (vs := [natV n, natV r]) hb9 rfl rfl rfl (by simp) (by simp) fun w10 h10 hs10 hb10 => ?_
 have hszc := hc.size
 have m10 : Same w w10 := ((hm2.trans hc).trans h9).trans' (h10.mono fun k _ e => .inr (by omega))
 have he10 := (hc.trans (h9.trans' (h10.mono fun k _ e => .inr (by omega)) : Same wc w10)).get hb2 (fun h => h)
 rw [keq_nil_nil' ifErr]
 refine kB_at ?_
 refine kIf_F rfl ?_
 unfold f12_0
 refine kldN_at he10 rfl (by omega) ?_
 have hP10 := h.cut m10
 refine kcall_of (sLeave_spec hP10 (g := g) (gm := gm) hs hn hr (fun c hc => hG.wf.cols n _ c (List.getElem?_eq_getElem hn) hc) hl hm (by omega)) ?_
 rintro v w15 ⟨sv, rfl, hO, hf, hP15, hm15⟩
 have hsz2 := hm2.size
 have hsz10 := m10.size
 have hsz15 := hm15.size
 have he15 := hm15.get he10 (fun ⟨t, e1, _⟩ => by rw [cutL_none (Nat.le_refl _)] at e1; cases e1)
 refine kext_at rfl ?_
 refine kext_at rfl ?_
 rw [keq_nil_nil' ifErr]
 refine kB_at ?_
 refine kIf_F rfl ?_
 unfold f12_1
 have md : Same w15 w15.drew := (Mod.refl (fun _ => False) _).drew
 have hPd := hP15.same md
 have hed := md.get he15 (fun h => h)
 have hOd := hO.same md
 have hsd : w15.drew.heap.size = w15.heap.size := rfl
 generalize w15.drew = wd at *
 have hbd := hPd.here
 refine kN_at ?_
 refine kfld_of ?_
 refine kld_at hbd rfl ?_
 refine kG_of rfl ?_
 refine kldN_at hed rfl (by omega) ?_
 refine kG_of rfl ?_
 refine kcall_of (rFree_spec hPd.roll (show (leaveS S n r m hn).gens[i]? = _ from hg) hfl) ?_
 rintro v w24 ⟨rfl, o5, hl5, hR5, hm5⟩
 have hP24 := hPd.setRoll hl5 hm5 hR5
 have hsv : ∀ k, vblk sv k → cutL (cutL o w.heap.size) w10.heap.size k = none := fun k hk => cutL_none (hf k hk)
 refine ⟨sv, rfl, ?_, fun k hk => by have := hf k hk; omega, goneS (leaveS S n r m hn) i g, ⟨w5, hG.fr.gone hg, fun j x hx => ?_, hG.ml, ?_⟩, rfl, rfl, rfl, rfl, ?_, fun j gj hj hgj => ?_, ?_⟩
 ·rw [hpe]
  exact hOd.mod hm5 fun k hk ⟨t, e1, _⟩ => by rw [hsv k hk] at e1; cases e1
 ·have hx : (S.gens.set i (g, false))[j]? = some x := hx
  have hil := (List.getElem?_eq_some_iff.1 hg).1
  by_cases hj : j = i
  ·subst hj
   rw [List.getElem?_set, if_pos rfl, if_pos hil] at hx
   cases hx
   have := hG.gen j _ hg
   simpa using this
  ·rw [List.getElem?_set_ne (fun e => hj e.symm)] at hx
   exact hG.gen j x hx
 ·show (S.gens.set i _).length ≤ 64
  rw [List.length_set]; exact h64
 ·show (List.set _ _ _).length = _
  rw [List.length_set]
 ·exact (v5 j).trans (v4 j gj hj hgj)
 ·refine TurnedX.wrap m10 ?_ (Mod.refl _ _)
  refine TurnedX.seq (o1 := cutL (cutL o w.heap.size) w10.heap.size) (w1 := w15) (LabEq.cut w10 _) hm15 md ?_
  refine ⟨cutL o5 w24.heap.size, p, hl5.trans (LabEq.cut w24 o5) hm5.size, hP24.frame (Mod.refl (fun _ => False) _) (fun _ _ _ h => h) (LabEq.cut w24 o5), hm5.mono fun k _ hk => FP.mono (fun _ _ => trivial) hk, fun k hk => cutL_none hk, fun k hk => ?_⟩
  have hkl := hOd.vblk_lt hk
  unfold cutL
  split
  ·rw [hl5 k hkl]; exact hsv k hk
  ·rfl
end
section
attribute [local irreducible] kO kB kStr kInt kN kG kIf kfld kld kldN kst knew kmap kbld kbldS kext kcnv klenStr klen kcap kprt kprtN kbool kint kstr keq kun ksl kix kiv kta kmk kmm ksem ksemU kextf kcallV kcallM kcall kL
end
section
def SortP (L : List Part) : Prop := L.Pairwise (fun x y => x.comp ≤ y.comp)
theorem nt_inj : ∀ {A : List Part}, NoTwice A → ∀ x ∈ A, ∀ y ∈ A, x.comp = y.comp → x = y
 | [], _, x, hx, _, _, _ => by cases hx
 | a :: A, h, x, hx, y, hy, e => by
  have h' := List.nodup_cons.1 (show (a.comp :: A.map (·.comp)).Nodup from h)
  rcases List.mem_cons.1 hx with hxa | hxA
  ·rcases List.mem_cons.1 hy with hya | hyA
   ·rw [hxa, hya]
   ·exact absurd (show a.comp ∈ A.map (·.comp) from List.mem_map.2 ⟨y, hyA, by rw [← hxa]; exact e.symm⟩) h'.1
  ·rcases List.mem_cons.1 hy with hya | hyA
   ·exact absurd (show a.comp ∈ A.map (·.comp) from List.mem_map.2 ⟨x, hxA, by rw [← hya]; exact e⟩) h'.1
   ·exact nt_inj h'.2 x hxA y hyA e
theorem sorted_unique {A B : List Part} (hp : A.Perm B) (hA : SortP A) (hB : SortP B) (hn : NoTwice A) : A = B :=
 List.Perm.eq_of_pairwise (le := fun x y : Part => x.comp ≤ y.comp) (fun a b ha hb h1 h2 => nt_inj hn a ha b (hp.mem_iff.2 hb) (by omega)) hA hB hp
theorem NoTwice.filter {L : List Part} (h : NoTwice L) (p : Part → Bool) : NoTwice (L.filter p) :=
 List.Nodup.sublist (List.Sublist.map _ List.filter_sublist) h
end
section
attribute [local irreducible] kO kB kStr kInt kN kG kIf kfld kld kldN kst knew kmap kbld kbldS kext kcnv klenStr klen kcap kprt kprtN kbool kint kstr keq kun ksl kix kiv kta kmk kmm ksem ksemU kextf kcallV kcallM kcall kL
end
section
attribute [local irreducible] kO kB kStr kInt kN kG kIf kfld kld kldN kst knew kmap kbld kbldS kext kcnv klenStr klen kcap kprt kprtN kbool kint kstr keq kun ksl kix kiv kta kmk kmm ksem ksemU kextf kcallV kcallM kcall kL
theorem Cur.turnN {w0 : World} {o : Lab} {w w' : World} {b : Nat} {p : Ptrs} {S S' : SM} {t t' : Nat} (h : Cur w0 o w b p S t) (T : Turned o w b S' w') (hG : GS S' t') : ∃ o' p', Cur w0 o' w' b p' S' t' ∧ (∀ k, k < w.heap.size → o k = none → o' k = none) ∧ Mod (fun k => o k ≠ none) w w' := by
 obtain ⟨o', p', C, hl, hm⟩ := h.turn T hG
 exact ⟨o', p', C, fun k hk e => by rw [hl k hk]; exact e, hm⟩
theorem Cur.mod {w0 : World} {o : Lab} {w w2 : World} {b : Nat} {p : Ptrs} {S : SM} {t : Nat} (h : Cur w0 o w b p S t) {fp : Nat → Prop} (m : Mod fp w w2) (hf : ∀ k, fp k → o k = none) (hlo : ∀ k, fp k → w0.heap.size ≤ k) : Cur w0 o w2 b p S t :=
 ⟨h.sp.frame m (fun k t e hk => by rw [hf k hk] at e; cases e) (LabEq.refl _ _), h.gs, h.lo, fun k hk => h.hi k (Nat.le_trans m.size hk), h.same.trans' (m.mono fun k _ e => .inr (hlo k e))⟩
end
section
theorem GS.succ {S : SM} {t : Nat} (h : GS S t) : GS S (t + 1) := ⟨h.wf, h.fr, fun i x e => by have := h.gen i x e; omega, by have := h.ml; omega, h.g64⟩
structure Kept (S S' : SM) (n : Nat) : Prop where
 cs : S'.cs = S.cs
 len : S'.gens.length = S.gens.length
 others : ∀ j, j ≠ n → S'.gens[j]? = S.gens[j]?
 own : ∀ g al, S.gens[n]? = some (g, al) → ∃ al', S'.gens[n]? = some (g, al')
 parts : ∀ j gj, j ≠ n → S.gens[j]? = some (gj, true) → partsOf S' j = partsOf S j
theorem Kept.refl (S : SM) (n : Nat) : Kept S S n := ⟨rfl, rfl, fun _ _ => rfl, fun _ al h => ⟨al, h⟩, fun _ _ _ _ => rfl⟩
theorem Went.kept {S S' : SM} {L : List Part} {i : Nat} (h : Went S S' L i) : Kept S S' i := ⟨h.cs, by rw [h.gens], fun _ _ => by rw [h.gens], fun _ al e => ⟨al, by rw [h.gens]; exact e⟩, h.others⟩
theorem PutS.kept {S S' : SM} {i c : Nat} {q : Part} (h : PutS S S' i c q) : Kept S S' i := ⟨h.cs, by rw [h.gens], fun _ _ => by rw [h.gens], fun _ al e => ⟨al, by rw [h.gens]; exact e⟩, h.others⟩
def Done (o : Lab) (w : World) (b : Nat) (S : SM) (t n : Nat) (w' : World) : Prop := ∃ S', GS S' (t + 1) ∧ Kept S S' n ∧ (Same w w' ∧ S' = S ∨ Turned o w b S' w')
theorem Done.same {o : Lab} {w w' : World} {b : Nat} {S : SM} {t n : Nat} (hG : GS S t) (m : Same w w') : Done o w b S t n w' := ⟨S, hG.succ, Kept.refl S n, .inl ⟨m, rfl⟩⟩
theorem Cur.done {w0 : World} {o : Lab} {w w' : World} {b : Nat} {p : Ptrs} {S : SM} {t n : Nat} (h : Cur w0 o w b p S t) (d : Done o w b S t n w') : ∃ o' p' S', Cur w0 o' w' b p' S' (t + 1) ∧ Kept S S' n ∧ (∀ k, k < w.heap.size → o k = none → o' k = none) ∧ Mod (fun k => o k ≠ none) w w' := by
 obtain ⟨S', hG, hK, ⟨m, rfl⟩ | T⟩ := d
 ·have C := h.loc m
  exact ⟨o, p, S', ⟨C.sp, hG, C.lo, C.hi, C.same⟩, hK, fun _ _ e => e, Mod.of_same m⟩
 ·obtain ⟨o', p', C, hk, hm⟩ := h.turnN T hG
  exact ⟨o', p', S', C, hK, hk, hm⟩
theorem FreeOk.lt {S : SM} (h : FreeOk S) {i : Nat} {g : Int} (hg : S.gens[i]? = some (g, true)) : S.free.length < S.gens.length := by
 have hil := (List.getElem?_eq_some_iff.1 hg).1
 have hni : i ∉ S.free := fun hm => by
  obtain ⟨g', e⟩ := (h.2 i).1 hm
  rw [hg] at e; cases e
 have hnd : (i :: S.free).Nodup := List.nodup_cons.2 ⟨hni, h.1⟩
 have := List.Nodup.length_le_of_subset hnd (l₂ := List.range S.gens.length) (fun a ha => by
  rcases List.mem_cons.1 ha with rfl | ha
  ·simpa using hil
  ·obtain ⟨g', e⟩ := (h.2 a).1 ha
   simpa using (List.getElem?_eq_some_iff.1 e).1)
 simp at this
 omega
theorem none_at {o : Lab} {w : World} {b : Nat} {p : Ptrs} {S : SM} (h : StoreP o w b p S) {t : Nat} (hG : GS S t) {i : Nat} {g : Int} (hg : S.gens[i]? = some (g, true)) {c : Int} (hno : ∀ x ∈ partsOf S i, x.comp ≠ c) :
  ∃ n r, S.spots[i]? = some (n, r) ∧ ∃ hn : n < S.tabs.length, ∀ x ∈ compsM S.masks n, (x : Int) ≠ c := by
 obtain ⟨n, r, hsp, hn, hnm, _, hpe, hce, hmap, _⟩ := parts_ok h hG hg
 refine ⟨n, r, hsp, hn, fun x hx e => ?_⟩
 rw [hce] at hx
 have h1 : (x : Int) ∈ (partsOf S i).map (·.comp) := hmap ▸ List.mem_map.2 ⟨x, hx, rfl⟩
 obtain ⟨y, hy, e2⟩ := List.mem_map.1 h1
 exact hno y hy (e2.trans e)
end
section
theorem Cur.modQ {w0 : World} {o : Lab} {w w2 : World} {b : Nat} {p : Ptrs} {S : SM} {t : Nat} (h : Cur w0 o w b p S t) {fp : Nat → Prop} (m : Mod fp w w2) (hf : ∀ k, fp k → w0.heap.size ≤ k ∧ o k = none) : Cur w0 o w2 b p S t :=
 ⟨h.sp.frame m (fun k t e hk => by rw [(hf k hk).2] at e; cases e) (LabEq.refl _ _), h.gs, h.lo, fun k hk => h.hi k (Nat.le_trans m.size hk), h.same.trans' (m.mono fun k _ e => .inr (hf k e).1)⟩
def WAt (w0 : World) (fx : Nat → Prop) (bs bb : Nat) (w : World) (S : SM) (t : Nat) (B : BdM) : Prop :=
 ∃ o p U, Cur w0 o w bs p S t ∧ BdAt U w bb B ∧ (∀ k, U k → w0.heap.size ≤ k ∧ o k = none ∧ ¬ fx k) ∧ ∀ k, fx k → w0.heap.size ≤ k ∧ k < w.heap.size ∧ o k = none
theorem WAt.same0 {w0 : World} {fx : Nat → Prop} {bs bb : Nat} {w : World} {S : SM} {t : Nat} {B : BdM} (h : WAt w0 fx bs bb w S t B) : Same w0 w := by
 obtain ⟨o, p, U, C, _⟩ := h
 exact C.same
theorem WAt.lt {w0 : World} {fx : Nat → Prop} {bs bb : Nat} {w : World} {S : SM} {t : Nat} {B : BdM} (h : WAt w0 fx bs bb w S t B) {k : Nat} (hk : fx k) : w0.heap.size ≤ k ∧ k < w.heap.size := by
 obtain ⟨o, p, U, _, _, _, hf⟩ := h
 exact ⟨(hf k hk).1, (hf k hk).2.1⟩
theorem WAt.loc {w0 : World} {fx : Nat → Prop} {bs bb : Nat} {w w' : World} {S : SM} {t : Nat} {B : BdM} (h : WAt w0 fx bs bb w S t B) (m : Same w w') : WAt w0 fx bs bb w' S t B := by
 obtain ⟨o, p, U, C, hb, hU, hf⟩ := h
 exact ⟨o, p, U, C.loc m, hb.same m, hU, fun k hk => ⟨(hf k hk).1, Nat.lt_of_lt_of_le (hf k hk).2.1 m.size, (hf k hk).2.2⟩⟩
theorem WAt.less {w0 : World} {fx fx' : Nat → Prop} {bs bb : Nat} {w : World} {S : SM} {t : Nat} {B : BdM} (h : WAt w0 fx bs bb w S t B) (hs : ∀ k, fx' k → fx k) : WAt w0 fx' bs bb w S t B := by
 obtain ⟨o, p, U, C, hb, hU, hf⟩ := h
 exact ⟨o, p, U, C, hb, fun k hk => ⟨(hU k hk).1, (hU k hk).2.1, fun h => (hU k hk).2.2 (hs k h)⟩, fun k hk => hf k (hs k hk)⟩
theorem WAt.other {w0 : World} {fx fp : Nat → Prop} {bs bb : Nat} {w w' : World} {S : SM} {t : Nat} {B : BdM} (h : WAt w0 fx bs bb w S t B) (m : Mod fp w w') (hfp : ∀ k, fp k → fx k) : WAt w0 (fun k => fx k ∨ (w.heap.size ≤ k ∧ k < w'.heap.size)) bs bb w' S t B := by
 obtain ⟨o, p, U, C, hb, hU, hf⟩ := h
 have hz := m.size
 have hz0 := C.same.size
 refine ⟨o, p, fun k => U k ∧ k < w.heap.size, C.modQ m fun k hk => ⟨(hf k (hfp k hk)).1, (hf k (hfp k hk)).2.2⟩, (hb.mono (U' := fun k => U k ∧ k < w.heap.size) fun k hk hu => ⟨hu, hk⟩).mod m fun k hk hp => (hU k hk.1).2.2 (hfp k hp), fun k hk => ⟨(hU k hk.1).1, (hU k hk.1).2.1, fun h => ?_⟩, fun k hk => ?_⟩
 ·rcases h with h | h
  ·exact (hU k hk.1).2.2 h
  ·have := hk.2; omega
 ·rcases hk with h | h
  ·exact ⟨(hf k h).1, by have := (hf k h).2.1; omega, (hf k h).2.2⟩
  ·exact ⟨by omega, h.2, C.hi k h.1⟩
theorem WAt.turned {w0 : World} {fx : Nat → Prop} {bs bb : Nat} {w w' : World} {S S' : SM} {t t' : Nat} {B : BdM} {o : Lab} {p : Ptrs} {U : Nat → Prop} (C : Cur w0 o w bs p S t) (hb : BdAt U w bb B) (hU : ∀ k, U k → w0.heap.size ≤ k ∧ o k = none ∧ ¬ fx k) (hf : ∀ k, fx k → w0.heap.size ≤ k ∧ k < w.heap.size ∧ o k = none)
  (T : Turned o w bs S' w') (hG : GS S' t') : WAt w0 fx bs bb w' S' t' B ∧ Mod (fun k => w0.heap.size ≤ k ∧ ¬ fx k) w w' := by
 obtain ⟨o', p', C', hk, hm⟩ := C.turnN T hG
 have hz := hm.size
 refine ⟨⟨o', p', fun k => U k ∧ k < w.heap.size, C', (hb.mono (U' := fun k => U k ∧ k < w.heap.size) fun k hk hu => ⟨hu, hk⟩).mod hm fun k hk' hne => hne (hU k hk'.1).2.1, fun k hk' => ⟨(hU k hk'.1).1, hk k hk'.2 (hU k hk'.1).2.1, (hU k hk'.1).2.2⟩, fun k hk' => ⟨(hf k hk').1, by have := (hf k hk').2.1; omega, hk k (hf k hk').2.1 (hf k hk').2.2⟩⟩, hm.mono fun k _ hne => ⟨?_, fun h => hne (hf k h).2.2⟩⟩
 rcases Nat.lt_or_ge k w0.heap.size with h | h
 ·exact absurd (C.lo k h) hne
 ·exact h
theorem WAt.badged {w0 : World} {fx : Nat → Prop} {bs bb : Nat} {w w' : World} {S : SM} {t : Nat} {B' : BdM} {o : Lab} {p : Ptrs} {U : Nat → Prop} (C : Cur w0 o w bs p S t) (hU : ∀ k, U k → w0.heap.size ≤ k ∧ o k = none ∧ ¬ fx k) (hf : ∀ k, fx k → w0.heap.size ≤ k ∧ k < w.heap.size ∧ o k = none)
  (hb : BdAt (fun k => U k ∨ w.heap.size ≤ k) w' bb B') (hm : Mod U w w') : WAt w0 fx bs bb w' S t B' ∧ Mod (fun k => w0.heap.size ≤ k ∧ ¬ fx k) w w' := by
 have hz := hm.size
 have hz0 := C.same.size
 refine ⟨⟨o, p, fun k => U k ∨ w.heap.size ≤ k, C.modQ hm fun k hk => ⟨(hU k hk).1, (hU k hk).2.1⟩, hb, fun k hk => ?_, fun k hk => ⟨(hf k hk).1, by have := (hf k hk).2.1; omega, (hf k hk).2.2⟩⟩, hm.mono fun k _ hu => ⟨(hU k hu).1, (hU k hu).2.2⟩⟩
 rcases hk with h | h
 ·exact hU k h
 ·exact ⟨by omega, C.hi k h, fun hx => by have := (hf k hx).2.1; omega⟩
theorem GS.more {S : SM} {t t' : Nat} (h : GS S t) (ht : t ≤ t') : GS S t' := by
 induction ht with
 | refl => exact h
 | step _ ih => exact ih.succ
structure Link (S : SM) (B : BdM) : Prop where
 live : ∀ x ∈ B.l, ∃ i : Nat, x.2.i = (i : Int) ∧ S.gens[i]? = some (x.2.g, true)
 all : ∀ (i : Nat) (g : Int), S.gens[i]? = some (g, true) → ∃ n, ∃ e : EK, (n, e) ∈ B.l ∧ e.i = (i : Int) ∧ e.g = g
 tm : S.tabs.length = S.masks.length
 cnt : S.free.length + B.l.length = S.gens.length
theorem Link.find {S : SM} {B : BdM} (h : Link S B) (x : Int) : (∃ y, B.l.find? (fun y => decide (((y.1 : Nat) : Int) = x)) = some y ∧ y ∈ B.l ∧ ((y.1 : Nat) : Int) = x) ∨ B.l.find? (fun y => decide (((y.1 : Nat) : Int) = x)) = none := by
 cases hf : B.l.find? (fun y => decide (((y.1 : Nat) : Int) = x)) with
 | none => exact .inr rfl
 | some y =>
  refine .inl ⟨y, rfl, List.mem_of_find?_eq_some hf, ?_⟩
  have := List.find?_some hf
  simpa using this
end
section
def viewS (S : SM) (B : BdM) : List (Nat × List Part) := B.l.map fun x => (x.1, partsOf S x.2.i.toNat)
def findV (V : List (Nat × List Part)) (x : Int) : Option (Nat × List Part) := V.find? fun y => decide (((y.1 : Nat) : Int) = x)
def setV (V : List (Nat × List Part)) (n : Nat) (L : List Part) : List (Nat × List Part) := V.map fun y => if y.1 = n then (n, L) else y
def delV (V : List (Nat × List Part)) (n : Nat) : List (Nat × List Part) := V.filter fun y => decide (y.1 ≠ n)
def delB (B : BdM) (n : Nat) : BdM := ⟨B.l.filter fun y => decide (y.1 ≠ n), B.nx⟩
theorem findV_view (S : SM) (B : BdM) (x : Int) : findV (viewS S B) x = (B.l.find? fun y => decide (((y.1 : Nat) : Int) = x)).map fun y => (y.1, partsOf S y.2.i.toNat) := by
 unfold findV viewS
 rw [List.find?_map]
 rfl
theorem nd_key {B : BdM} (h : B.WF) {a b : Nat × EK} (ha : a ∈ B.l) (hb : b ∈ B.l) (e : a.2 = b.2) : a = b := by
 obtain ⟨i, hi, rfl⟩ := List.mem_iff_getElem.1 ha
 obtain ⟨j, hj, rfl⟩ := List.mem_iff_getElem.1 hb
 have h1 : (B.l.map (·.2))[i]? = some (B.l[i]).2 := by rw [List.getElem?_map, List.getElem?_eq_getElem hi]; rfl
 have h2 : (B.l.map (·.2))[j]? = some (B.l[j]).2 := by rw [List.getElem?_map, List.getElem?_eq_getElem hj]; rfl
 have hij : i = j := (List.getElem?_inj (by simpa using hi) h.nd).1 (by rw [h1, e]; exact h2.symm)
 subst hij; rfl
theorem nd_num {B : BdM} (h : B.WF) {a b : Nat × EK} (ha : a ∈ B.l) (hb : b ∈ B.l) (e : a.1 = b.1) : a = b := by
 obtain ⟨i, hi, rfl⟩ := List.mem_iff_getElem.1 ha
 obtain ⟨j, hj, rfl⟩ := List.mem_iff_getElem.1 hb
 have hnd : (B.l.map (·.1)).Nodup := h.asc.imp fun h e => by omega
 have h1 : (B.l.map (·.1))[i]? = some (B.l[i]).1 := by rw [List.getElem?_map, List.getElem?_eq_getElem hi]; rfl
 have h2 : (B.l.map (·.1))[j]? = some (B.l[j]).1 := by rw [List.getElem?_map, List.getElem?_eq_getElem hj]; rfl
 have hij : i = j := (List.getElem?_inj (by simpa using hi) hnd).1 (by rw [h1, e]; exact h2.symm)
 subst hij; rfl
theorem Link.index {S : SM} {B : BdM} (h : Link S B) {a b : Nat × EK} (ha : a ∈ B.l) (hb : b ∈ B.l) (e : a.2.i = b.2.i) : a.2 = b.2 := by
 obtain ⟨i, h1, h2⟩ := h.live a ha
 obtain ⟨j, h3, h4⟩ := h.live b hb
 have hij : i = j := by omega
 subst hij
 rw [h2] at h4
 have : a.2.g = b.2.g := by simpa using h4
 exact EK.ext e this
theorem Link.went {S S' : SM} {B : BdM} (h : Link S B) {L' : List Part} {i : Nat} (hW : Went S S' L' i) : Link S' B where
 live x hx := by rw [hW.gens]; exact h.live x hx
 all j g hj := by rw [hW.gens] at hj; exact h.all j g hj
 tm := hW.tabs
 cnt := by rw [hW.free, hW.gens]; exact h.cnt
theorem view_went {S S' : SM} {B : BdM} (h : Link S B) (hwf : B.WF) {L' : List Part} {i : Nat} (hW : Went S S' L' i) {y : Nat × EK} (hy : y ∈ B.l) (hyi : y.2.i = (i : Int)) : viewS S' B = setV (viewS S B) y.1 L' := by
 unfold viewS setV
 rw [List.map_map]
 apply List.map_congr_left
 intro x hx
 show (x.1, partsOf S' x.2.i.toNat) = if x.1 = y.1 then (y.1, L') else (x.1, partsOf S x.2.i.toNat)
 by_cases he : x.1 = y.1
 ·have := nd_num hwf hx hy he
  subst this
  rw [if_pos rfl, hyi, Int.toNat_natCast, hW.parts]
 ·rw [if_neg he]
  obtain ⟨j, h1, h2⟩ := h.live x hx
  rw [h1, Int.toNat_natCast, hW.others j _ (fun e => he ?_) h2]
  have : x.2 = y.2 := h.index hx hy (by rw [h1, hyi, e])
  rw [nd_key hwf hx hy this]
theorem Link.born {S S' : SM} {B : BdM} (h : Link S B) (hfr : S.free ≠ []) {L' : List Part} {i : Nat} {g : Int} {g0 : Int} (hb : Born S S' L' i g) (hg : S.gens[i]? = some (g0, false)) {e : EK} (h1 : e.i = (i : Int)) (h2 : e.g = g) : Link S' ⟨B.l ++ [(B.nx, e)], B.nx + 1⟩ where
 live x hx := by
  have hil := (List.getElem?_eq_some_iff.1 hg).1
  rcases List.mem_append.1 hx with hx | hx
  ·obtain ⟨j, h3, h4⟩ := h.live x hx
   refine ⟨j, h3, ?_⟩
   rw [hb.gens, List.getElem?_set_ne (fun e => ?_)]
   ·exact h4
   ·subst e; rw [hg] at h4; cases h4
  ·have hx : x = (B.nx, e) := by simpa using hx
   subst hx
   refine ⟨i, h1, ?_⟩
   rw [hb.gens, List.getElem?_set, if_pos rfl, if_pos hil, h2]
 all j gj hj := by
  by_cases hji : i = j
  ·subst hji
   refine ⟨B.nx, e, by simp, h1, ?_⟩
   rw [hb.gens, List.getElem?_set, if_pos rfl] at hj
   split at hj
   ·have : g = gj := by simpa using hj
    rw [h2, this]
   ·cases hj
  ·rw [hb.gens, List.getElem?_set_ne hji] at hj
   obtain ⟨n, e', h3, h4, h5⟩ := h.all j gj hj
   exact ⟨n, e', List.mem_append_left _ h3, h4, h5⟩
 tm := hb.tabs
 cnt := by
  have h1 := h.cnt
  have h2 : 0 < S.free.length := List.length_pos_iff.2 hfr
  rw [hb.free, hb.gens, List.length_dropLast, List.length_set, List.length_append, List.length_singleton]
  omega
theorem view_born {S S' : SM} {B : BdM} (h : Link S B) {L' : List Part} {i : Nat} {g : Int} {g0 : Int} (hb : Born S S' L' i g) (hg : S.gens[i]? = some (g0, false)) {e : EK} (h1 : e.i = (i : Int)) : viewS S' ⟨B.l ++ [(B.nx, e)], B.nx + 1⟩ = viewS S B ++ [(B.nx, L')] := by
 unfold viewS
 rw [List.map_append]
 congr 1
 ·apply List.map_congr_left
  intro x hx
  obtain ⟨j, h3, h4⟩ := h.live x hx
  rw [h3, Int.toNat_natCast, hb.others j _ (fun e => ?_) h4]
  subst e; rw [hg] at h4; cases h4
 ·show [(B.nx, partsOf S' e.i.toNat)] = _
  rw [h1, Int.toNat_natCast, hb.parts]
theorem delB_nums {B : BdM} (hwf : B.WF) {k : Nat} (hk : k < B.l.length) : (delB B (B.l[k]).1).nums = B.nums.take k ++ B.nums.drop (k + 1) := by
 have e : (delB B (B.l[k]).1).l = B.l.take k ++ B.l.drop (k + 1) := by
  unfold delB
  have hsp : B.l = B.l.take k ++ B.l[k] :: B.l.drop (k + 1) := by
   rw [List.getElem_cons_drop, List.take_append_drop]
  have h1 : (B.l.take k).filter (fun y => decide (y.1 ≠ (B.l[k]).1)) = B.l.take k := by
   refine List.filter_eq_self.2 fun x hx => ?_
   obtain ⟨i, hi, rfl⟩ := List.mem_iff_getElem.1 hx
   rw [List.length_take] at hi
   rw [List.getElem_take]
   simp only [ne_eq, decide_not, Bool.not_eq_true', decide_eq_false_iff_not]
   intro e
   have := (List.pairwise_iff_getElem.1 hwf.asc) i k (by simp; omega) (by simpa using hk) (by omega)
   simp only [List.getElem_map] at this
   omega
  have h2 : (B.l.drop (k + 1)).filter (fun y => decide (y.1 ≠ (B.l[k]).1)) = B.l.drop (k + 1) := by
   refine List.filter_eq_self.2 fun x hx => ?_
   obtain ⟨i, hi, rfl⟩ := List.mem_iff_getElem.1 hx
   rw [List.length_drop] at hi
   rw [List.getElem_drop]
   simp only [ne_eq, decide_not, Bool.not_eq_true', decide_eq_false_iff_not]
   intro e
   have := (List.pairwise_iff_getElem.1 hwf.asc) k (k + 1 + i) (by simpa using hk) (by simp; omega) (by omega)
   simp only [List.getElem_map] at this
   omega
  have h3 := congrArg (List.filter fun y => decide (y.1 ≠ (B.l[k]).1)) hsp
  rw [List.filter_append, h1, List.filter_cons_of_neg (by simp), h2] at h3
  exact h3
 unfold BdM.nums
 rw [e, List.map_append, List.map_take, List.map_drop]
theorem Link.gone {S S' : SM} {B : BdM} (h : Link S B) (hwf : B.WF) {y : Nat × EK} (hy : y ∈ B.l) {i : Nat} (hyi : y.2.i = (i : Int)) (hgens : S'.gens = S.gens.set i (y.2.g, false)) (hfree : S'.free = S.free ++ [i]) (htm : S'.tabs.length = S'.masks.length) : Link S' (delB B y.1) where
 live x hx := by
  obtain ⟨hx, hne⟩ := List.mem_filter.1 hx
  have hne : x.1 ≠ y.1 := by simpa using hne
  obtain ⟨j, h3, h4⟩ := h.live x hx
  refine ⟨j, h3, ?_⟩
  rw [hgens, List.getElem?_set_ne (fun e => hne ?_)]
  ·exact h4
  ·rw [nd_key hwf hx hy (h.index hx hy (by rw [h3, hyi, e]))]
 all j gj hj := by
  rw [hgens] at hj
  by_cases hji : i = j
  ·subst hji
   rw [List.getElem?_set, if_pos rfl] at hj
   split at hj
   ·simp at hj
   ·cases hj
  ·rw [List.getElem?_set_ne hji] at hj
   obtain ⟨n, e', h3, h4, h5⟩ := h.all j gj hj
   refine ⟨n, e', List.mem_filter.2 ⟨h3, ?_⟩, h4, h5⟩
   simp only [ne_eq, decide_not, Bool.not_eq_true', decide_eq_false_iff_not]
   intro hn
   have := nd_num hwf h3 hy hn
   apply hji
   have h6 : e'.i = y.2.i := congrArg (fun z : Nat × EK => z.2.i) this
   omega
 tm := htm
 cnt := by
  have h1 := h.cnt
  obtain ⟨k, hk, rfl⟩ := List.mem_iff_getElem.1 hy
  have h2 := congrArg List.length (delB_nums hwf hk)
  unfold BdM.nums at h2
  simp only [List.length_map, List.length_append, List.length_take, List.length_drop] at h2
  rw [hfree, hgens, List.length_set, List.length_append, List.length_singleton]
  omega
theorem view_gone {S S' : SM} {B : BdM} (h : Link S B) (hwf : B.WF) {y : Nat × EK} (hy : y ∈ B.l) {i : Nat} (hyi : y.2.i = (i : Int)) (hoth : ∀ j gj, j ≠ i → S.gens[j]? = some (gj, true) → partsOf S' j = partsOf S j) : viewS S' (delB B y.1) = delV (viewS S B) y.1 := by
 unfold viewS delV delB
 rw [List.filter_map]
 show (B.l.filter _).map _ = (B.l.filter _).map _
 have : B.l.filter ((fun y_1 : Nat × List Part => decide (y_1.1 ≠ y.1)) ∘ fun x : Nat × EK => (x.1, partsOf S x.2.i.toNat)) = B.l.filter fun z => decide (z.1 ≠ y.1) := rfl
 rw [this]
 apply List.map_congr_left
 intro x hx
 obtain ⟨hx, hne⟩ := List.mem_filter.1 hx
 have hne : x.1 ≠ y.1 := by simpa using hne
 obtain ⟨j, h3, h4⟩ := h.live x hx
 rw [h3, Int.toNat_natCast, hoth j _ (fun e => hne ?_) h4]
 rw [nd_key hwf hx hy (h.index hx hy (by rw [h3, hyi, e]))]
theorem delB_wf {B : BdM} (h : B.WF) (n : Nat) : (delB B n).WF where
 asc := by
  have := h.asc
  rw [List.pairwise_map] at this ⊢
  exact List.Pairwise.filter _ this
 lt x hx := h.lt x (List.mem_filter.1 hx).1
 nd := by
  have := h.nd
  unfold List.Nodup at this ⊢
  rw [List.pairwise_map] at this ⊢
  exact List.Pairwise.filter _ this
 pos := h.pos
theorem find_filter_ne {α : Type} {p q : α → Bool} (l : List α) (h : ∀ x ∈ l, p x = true → q x = true) : (l.filter q).find? p = l.find? p := by
 induction l with
 | nil => rfl
 | cons x l ih =>
  have ih := ih fun y hy => h y (List.mem_cons_of_mem _ hy)
  by_cases hp : p x = true
  ·have hq := h x List.mem_cons_self hp
   rw [List.filter_cons_of_pos hq, List.find?_cons_of_pos hp, List.find?_cons_of_pos hp]
  ·by_cases hq : q x = true
   ·rw [List.filter_cons_of_pos hq, List.find?_cons_of_neg hp, List.find?_cons_of_neg hp, ih]
   ·rw [List.filter_cons_of_neg hq, List.find?_cons_of_neg hp, ih]
theorem delB_own {B : BdM} (n : Nat) : (delB B n).own = fun m => if m = ((n : Nat) : Int) then none else B.own m := by
 funext m
 unfold BdM.own delB
 by_cases hm : m = ((n : Nat) : Int)
 ·subst hm
  rw [if_pos rfl, Option.map_eq_none_iff, List.find?_eq_none]
  intro x hx
  have := (List.mem_filter.1 hx).2
  simp at this ⊢
  omega
 ·rw [if_neg hm]
  show ((B.l.filter _).find? _).map _ = _
  rw [find_filter_ne]
  intro x hx hp
  simp at hp ⊢
  intro e
  apply hm
  rw [← hp, e]
theorem delB_ids {B : BdM} (hwf : B.WF) {y : Nat × EK} (hy : y ∈ B.l) : (delB B y.1).ids = fun e => if e = y.2 then none else B.ids e := by
 funext e
 unfold BdM.ids delB
 by_cases hm : e = y.2
 ·subst hm
  rw [if_pos rfl, Option.map_eq_none_iff, List.find?_eq_none]
  intro x hx
  obtain ⟨h1, h2⟩ := List.mem_filter.1 hx
  simp at h2 ⊢
  intro e
  exact h2 (by rw [nd_key hwf h1 hy e])
 ·rw [if_neg hm]
  show ((B.l.filter _).find? _).map _ = _
  rw [find_filter_ne]
  intro x hx hp
  simp at hp ⊢
  intro e2
  apply hm
  rw [← hp, nd_num hwf hx hy e2]
end
end Go.Proofs.YtmidldeaapdjoaaGreatDoor
namespace Go.Proofs.YtmidldeaapdjoaaGreatDoor
open Go.Shelf
section
def delInt_ren : Go.Shelf.Ren := ⟨fun | 23 => 204 | n => n, fun | 22 => 85 | 3 => 3 | 4 => 4 | 0 => 0 | n => n, fun | n => n⟩
theorem delInt : Go.Proofs.Lays2.n23 Tryz.prog delInt_ren := {
 mixed := by kernel_rfl
 f23 := Tryz.func204.trans (congrArg some (by kernel_rfl))
 t0 := Tryz.underlying0
 a0 := Tryz.isAgg0
 z0 := Tryz.sizeOf0
 v0 := Tryz.zeroValue0
 t3 := Tryz.underlying3
 a3 := Tryz.isAgg3
 z3 := Tryz.sizeOf3
 v3 := Tryz.zeroValue3
 t4 := Tryz.underlying4
 a4 := Tryz.isAgg4
 z4 := Tryz.sizeOf4
 v4 := Tryz.zeroValue4
 t22 := Tryz.underlying85
 a22 := Tryz.isAgg85
 z22 := Tryz.sizeOf85
 v22 := Tryz.zeroValue85
 i3 := by kernel_rfl }
end
end Go.Proofs.YtmidldeaapdjoaaGreatDoor
namespace Go.Proofs.YtmidldeaapdjoaaGreatDoor
open Go Go.Ev Go.Sort Go.RowKit
section
attribute [local irreducible] kO kB kStr kInt kN kG kIf kfld kld kldN kst knew kmap kbld kbldS kext kcnv klenStr klen kcap kprt kprtN kbool kint kstr keq kun ksl kix kiv kta kmk kmm ksem ksemU kextf kcallV kcallM kcall kL
theorem putCells_mapI {α : Type} [Inhabited α] (enc : α → Value) (off : Nat) (d : Array α) (arr : Array Value) : putCells enc off d arr = putCells id off (d.map enc) arr := by
 unfold putCells
 congr 1
 funext k x
 rw [Array.size_map]
 by_cases h : off ≤ k ∧ k < off + d.size
 ·rw [if_pos h, if_pos h, getElem!_pos d (k - off) (by omega), getElem!_pos (d.map enc) (k - off) (by rw [Array.size_map]; omega), Array.getElem_map]; rfl
 ·rw [if_neg h, if_neg h]
theorem delI_mod {w : World} {b n : Nat} {arr : Array Value} {t : TypeId} (hb : blk w b = some (.cells arr t)) (d : Array Int) (hs : d.size ≤ arr.size) :
  Mod (fun i => i = b) w (putRow (Value.int .i64) (Sort.ahead w n) b 0 d) ∧ blk (putRow (Value.int .i64) (Sort.ahead w n) b 0 d) b = some (.cells (setAll (d.toList.map nV) arr 0) t) := by
 have hsz : (mapBlock (Sort.ahead w n) b (putCells (Value.int .i64) 0 d)).heap.size = w.heap.size := by unfold mapBlock Sort.ahead; simp
 have ha : ∀ i, blk (Sort.ahead w n) i = blk w i := fun _ => rfl
 refine ⟨⟨rfl, rfl, rfl, ?_, fun i hi hne => ?_⟩, ?_⟩
 ·unfold putRow
  rw [hsz]; exact Nat.le_refl _
 ·unfold putRow
  rw [mapBlock_blk, if_neg hne, ha]
 ·unfold putRow
  rw [mapBlock_blk, if_pos rfl, ha, hb]
  show some (Obj.cells (putCells (Value.int .i64) 0 d arr) t (0, 0)) = _
  rw [putCells_mapI, putCells_list _ _ _ (by simpa using hs), Array.toList_map]
  rfl
theorem delI_spec {w : World} {v : Value} {l : List Int} (hO : Own w v 1 (l.map nV)) {k : Nat} (hk : k < l.length) :
  Meets Tryz.prog 204 #[v, .int .i64 k, .int .i64 ((k + 1 : Nat) : Int)] w fun v' w' => Own w' v' 1 ((l.take k ++ l.drop (k + 1)).map nV) ∧ Mod (vblk v) w w' ∧ ∀ b, vblk v' b → vblk v b := by
 have hlen : (l.map nV).length = l.length := by simp
 obtain ⟨bc, n, cp, arr, t, rfl, hb, hln, hcs, hnc, hcm, h5⟩ := hO.view (by intro e; rw [e] at hlen; simp only [List.length_nil] at hlen; omega)
 have hnl : n = l.length := by omega
 subst hnl
 rw [Nat.mul_one] at hcs h5
 have hH : Holds (Value.int .i64) w bc 0 l.toArray := by
  intro j hj
  have hj : j < l.length := by simpa using hj
  refine ⟨?_, by simp [World.frozen?, show w.heap[bc]? = _ from hb]⟩
  have e1 := congrArg (fun l : List Value => l[j]?) h5
  simp only [List.getElem?_take_of_lt hj] at e1
  rw [cell_mk, hb, cellO_some, Nat.zero_add, getElem!_pos _ j (by simpa using hj)]
  rw [Array.getElem?_toList, List.getElem?_map, List.getElem?_eq_getElem hj] at e1
  exact e1
 refine ⟨by kernel_rfl, (Any.slices_Delete_int delInt bc 0 cp k (k + 1) l w hH hnc (by unfold maxLen at hcm; omega) (by omega) (by omega)).mono ?_⟩
 rintro e w' ⟨rfl, q, rfl⟩
 have e1 : k + 1 - k = 1 := by omega
 rw [e1]
 obtain ⟨q1, q2⟩ := delI_mod (n := q) hb (l.take k ++ l.drop (k + 1) ++ List.replicate 1 (0 : Int)).toArray (by simp; omega)
 refine ⟨_, rfl, ?_, q1.mono fun k _ e => by subst e; exact ⟨_, _, _, rfl⟩, fun b hb => by obtain ⟨_, _, _, e⟩ := hb; cases e; exact ⟨_, _, _, rfl⟩⟩
 have hp := hO.put (us := (l.take k ++ l.drop (k + 1) ++ List.replicate 1 (0 : Int)).map nV) (j := 0) hb q2 (by simp; omega)
 have e6 : (l.map nV).drop (((l.take k ++ l.drop (k + 1) ++ List.replicate 1 (0 : Int)).map nV).length) = [] := List.drop_of_length_le (by simp; omega)
 rw [List.take_zero, List.nil_append, Nat.zero_add, e6, List.append_nil] at hp
 have := hp.cutN (k := l.length - 1) (by omega)
 rw [Nat.mul_one, List.map_append, List.take_left' (by simp; omega)] at this
 exact this
theorem bdDrop {U : Nat → Prop} {w : World} {b : Nat} {B : BdM} (h : BdAt U w b B) {y : Nat × EK} (hy : y ∈ B.l) :
  Meets Tryz.prog 183 #[.pointer (some ⟨b, 0, none⟩), .int .i64 ((y.1 : Nat) : Int)] w fun v w' => v = .tuple #[.agg #[.int .i64 y.2.i, .int .i64 y.2.g], .nilIface] ∧ BdAt (fun k => U k ∨ w.heap.size ≤ k) w' b (delB B y.1) ∧ Mod U w w' := by
 have hA := h
 obtain ⟨bo, bi, sv, h⟩ := h
 have hf : B.l.find? (fun z => decide (((z.1 : Nat) : Int) = ((y.1 : Nat) : Int))) = some y := by
  cases hf : B.l.find? (fun z => decide (((z.1 : Nat) : Int) = ((y.1 : Nat) : Int))) with
  | none =>
   have := List.find?_eq_none.1 hf y hy
   simp at this
  | some z =>
   have h1 := List.find?_some hf
   have h2 := List.mem_of_find?_eq_some hf
   simp at h1
   rw [nd_num h.wf h2 hy (by omega)]
 obtain ⟨hnb, hnb2, hnv⟩ := h.apart
 have ne := h.ne
 have ns := h.ns
 have lb := lt_of_blk h.here
 have lo := h.own.lt
 have li := h.ids.lt
 refine f183_ok ?_
 unfold f183
 refine knew_of fun w2 h2 hs2 hb2 => ?_
 refine kcall_of (bdEntity (hA.same h2) _) ?_
 rintro v w4 ⟨rfl, h4⟩
 rw [hf]
 refine kext_at rfl ?_
 refine kext_at rfl ?_
 refine knew_of fun w8 h8 hs8 hb8 => ?_
 refine kst_of (vs := [.int .i64 y.2.i, .int .i64 y.2.g]) hb8 rfl rfl rfl (by simp) (by simp) fun w9 h9 hs9 hb9 => ?_
 have hb9 : blk w9 w4.heap.size = some (.cells #[.int .i64 y.2.i, .int .i64 y.2.g] 37) := hb9
 have m4 : Same w w4 := h2.trans h4
 have m9 : Same w4 w9 := h8.trans' (h9.mono fun k _ e => .inr (by omega))
 have m9w : Same w w9 := m4.trans m9
 rw [keq_ptr_nil ptBad]
 refine kB_at ?_
 refine kIf_F rfl ?_
 refine not_at ?_
 refine kB_at ?_
 refine kIf_F rfl ?_
 have hb2' : ∃ arr, blk w9 w.heap.size = some (.cells arr 37) ∧ arr.size = 2 := ⟨_, m9.get (h4.get hb2 (fun h => h)) (fun h => h), rfl⟩
 obtain ⟨arr, hb2', ha2⟩ := hb2'
 have q9 := h.mod m9w (fun _ _ h => h)
 have hh := q9.here
 have hz4 := m4.size
 have hz9 := m9.size
 obtain ⟨sa, sn, sc, rfl, hsl, hsn⟩ := q9.nums.is
 have hsn : sn = B.nums.length := by simpa using hsn rfl
 subst hsn
 have hnl : B.nums.length = B.l.length := by unfold BdM.nums; simp
 have hle := h.le
 unfold f183_0
 refine kN_at ?_
 refine kfld_of ?_
 refine kld_at hh rfl ?_
 refine kcall_of (bsearchG (by omega) hsl h.wf.ascI _) ?_
 rintro v w28 ⟨h28, k, hk, hk1, hk2, rfl⟩
 have hkj : ∃ hkl : k < B.l.length, B.l[k] = y := by
  obtain ⟨j, hj, hje⟩ := List.mem_iff_getElem.1 hy
  have hjn : j < B.nums.length := by omega
  have hnj : B.nums[j] = ((y.1 : Nat) : Int) := by simp [BdM.nums, hje]
  have : k = j := by
   rcases Nat.lt_trichotomy k j with hlt | heq | hgt
   ·have h1 := hk2 k (by omega) (Nat.le_refl _)
    have h2 := asc_get h.wf.ascI hlt hjn
    omega
   ·exact heq
   ·have h1 := hk1 j hjn hgt
    omega
  subst this
  exact ⟨hj, hje⟩
 obtain ⟨hkl, hky⟩ := hkj
 have q28 := q9.mod h28 (fun _ _ h => h)
 have hh28 := q28.here
 refine kext_at rfl ?_
 refine kext_at rfl ?_
 refine kN_at ?_
 refine kfld_of ?_
 refine kld_at hh28 rfl ?_
 refine add_at (by omega) (by omega) ?_
 rw [show ((k : Int) + 1) = ((k + 1 : Nat) : Int) by omega]
 refine kcall_of (delI_spec q28.nums (by omega)) ?_
 rintro v w35 ⟨hO35, h35, hf35⟩
 have m28 : Same w w28 := m9w.trans h28
 have hh35 := h35.get hh28 (fun hk => ns _ hk rfl)
 have hb9' := h28.get hb9 (fun h => h)
 have hlt28 := lt_of_blk hb9'
 have hv28 : ∀ k, vblk (.slice sa B.nums.length sc) k → k < w.heap.size := fun k hk => by
  have := h.nums.vblk_lt hk
  exact this
 have hb935 := h35.get hb9' (fun hk => by have := hv28 _ hk; omega)
 have hb235 := h35.get (h28.get hb2' (fun h => h)) (fun hk => by have := hv28 _ hk; omega)
 have ho35 := q28.own.mod h35 (fun hk => (hnv _ hk).1 rfl)
 have hi35 := q28.ids.mod h35 (fun hk => (hnv _ hk).2 rfl)
 obtain ⟨va, vn, vc, rfl, _, _⟩ := hO35.is
 refine kN_at ?_
 refine kfld_of ?_
 refine kst_of (vs := [.slice va vn vc]) hh35 rfl rfl rfl (by simp) (by simp) fun w37 h37 hs37 hb37 => ?_
 have hb37 : blk w37 b = some (.cells #[.map (some bo), .map (some bi), .slice va vn vc, natV B.nx] 225) := hb37
 have hO37 := hO35.mod h37 (fun k hk e => ns k (hf35 k hk) e)
 have ho37 := ho35.mod h37 hnb
 have hi37 := hi35.mod h37 hnb2
 have hb937 := h37.get hb935 (by omega)
 have hb237 := h37.get hb235 (by omega)
 refine kN_at ?_
 refine kfld_of ?_
 refine kld_of (v := .map (some bo)) hb37 rfl ?_
 refine kdelV (F := intF) Tryz.underlying222 keyInt' ho37 ((y.1 : Nat) : Int) fun w41 h41 hs41 hm41 => ?_
 have hb41 := h41.get hb37 (fun h => hnb h.symm)
 have hb941 := h41.get hb937 (by omega)
 have hb241 := h41.get hb237 (by omega)
 have hi41 := hi37.mod h41 (fun h => ne h.symm)
 have hO41 := hO37.mod h41 (fun k hk e => (hnv k (hf35 k hk)).1 e)
 have md : Same w41 w41.drew := (Mod.refl (fun _ => False) _).drew
 refine kN_at ?_
 refine kfld_of ?_
 refine kld_of (v := .map (some bi)) (md.get hb41 (fun h => h)) rfl ?_
 refine kG_of rfl ?_
 refine kldN_at (cs := [.int .i64 y.2.i, .int .i64 y.2.g]) (md.get hb941 (fun h => h)) rfl (by omega) ?_
 refine kG_of rfl ?_
 refine kdelV (F := EK.v) Tryz.underlying223 keyEK (hi41.same md) y.2 fun w46 h46 hs46 hm46 => ?_
 have h46' : Mod (fun k => k = bi) w41 w46 := (Mod.of_same md).trans h46
 have hb46 := h46'.get hb41 (fun h => hnb2 h.symm)
 have hb946 := h46'.get hb941 (by omega)
 have hb246 := h46'.get hb241 (by omega)
 have ho46 := hm41.mod h46' ne
 have hO46 := hO41.mod h46' (fun k hk e => (hnv k (hf35 k hk)).2 e)
 refine kldN_at (cs := [.int .i64 y.2.i, .int .i64 y.2.g]) hb946 rfl (by omega) ?_
 refine kst_of (vs := [.int .i64 y.2.i, .int .i64 y.2.g]) hb246 rfl rfl rfl (by omega) (by simp) fun w48 h48 hs48 hb48 => ?_
 have hb48 : blk w48 w.heap.size = some (.cells (setAll [.int .i64 y.2.i, .int .i64 y.2.g] arr 0) 37) := hb48
 have e48 : segL (setAll [Value.int .i64 y.2.i, .int .i64 y.2.g] arr 0).toList 0 2 = some [.int .i64 y.2.i, .int .i64 y.2.g] := by
  have hal : arr = #[arr[0], arr[1]] := by
   apply Array.ext
   ·simp [ha2]
   ·intro i h1 h2
    have : i = 0 ∨ i = 1 := by omega
    rcases this with rfl | rfl <;> simp
  rw [hal]; rfl
 refine kldN_at (cs := [.int .i64 y.2.i, .int .i64 y.2.g]) hb48 e48 (by omega) ?_
 have hd := delB_nums h.wf hkl
 rw [hky] at hd
 have hvl : ∀ k, vblk (.slice va vn vc) k → k < w.heap.size := fun k hk => hv28 k (hf35 k hk)
 refine ⟨rfl, ⟨bo, bi, .slice va vn vc, h48.get hb46 (by omega), ?_, ?_, ?_, .inl h.ub, .inl h.uo, .inl h.ui, fun k hk => .inl (h.us k (hf35 k hk)), ne, fun k hk => ns k (hf35 k hk), delB_wf h.wf _, ?_⟩, ?_⟩
 ·rw [delB_own]
  exact ho46.mod h48 (by omega)
 ·rw [delB_ids h.wf hy]
  exact hm46.mod h48 (by omega)
 ·rw [hd]
  exact hO46.mod h48 fun k hk e => by have := hvl k hk; omega
 ·show (B.l.filter _).length ≤ 64
  have := List.length_filter_le (fun z : Nat × EK => decide (z.1 ≠ y.1)) B.l
  omega
 ·refine (Mod.of_same m28).trans ((h35.mono fun k _ hk => h.us k hk).trans ((h37.mono fun k _ e => by rw [e]; exact h.ub).trans ((h41.mono fun k _ e => by rw [e]; exact h.uo).trans (h46'.mono fun k _ e => by rw [e]; exact h.ui)))) |>.trans' ?_
  exact h48.mono fun k _ e => .inr (by omega)
theorem bdNext {U : Nat → Prop} {w : World} {b : Nat} {B : BdM} (h : BdAt U w b B) : Meets Tryz.prog 82 #[.pointer (some ⟨b, 0, none⟩)] w fun v w' => v = natV B.nx ∧ w' = w := by
 obtain ⟨bo, bi, sv, h⟩ := h
 have hh := h.here
 refine f82_ok ?_
 unfold f82
 rw [keq_ptr_nil ptBad]
 refine kB_at ?_
 refine kIf_F rfl ?_
 unfold f82_0
 refine kN_at ?_
 refine kfld_of ?_
 refine kld_of (v := natV B.nx) hh rfl ?_
 exact ⟨rfl, rfl⟩
end
end Go.Proofs.YtmidldeaapdjoaaGreatDoor
namespace Go.Proofs.YtmidldeaapdjoaaGreatDoor
open Go Go.Ev
section
def f90_3 (x0 x1 x12 x13 : Value) (J4 : Value → World → Prop) (Q : PQ) (w : World) : Prop :=
 kint .i64 .add x13 (.int .i64 1) fun v15 =>
 J4 v15 w
def f90_2 (x0 x1 x12 x13 : Value) (J4 : Value → World → Prop) (Q : PQ) (w : World) : Prop :=
 kix (some (.slice 47)) (some 6) x0 x13 fun v9 =>
 kldN 6 v9 w.drew fun v10 =>
 kG (w.drew = w.drew) <|
 kix (some (.slice 47)) (some 6) x1 x13 fun v11 =>
 kldN 6 v11 w.drew fun v12 =>
 kG (w.drew = w.drew) <|
 keq Tryz.prog .neq 47 false false v10 v12 w.drew fun v13 w14 =>
 kG (w14 = w.drew) <|
 kB v13 fun b16 => kIf b16
 (Q (.bool false) w14)
 (f90_3 x0 x1 x12 x13 J4 Q w14)
def f90_4 (Q : PQ) (w : World) : Prop :=
 Q (.bool true) w
def f90_1 (x13 x0 x1 x12 : Value) (J4 : Value → World → Prop) (Q : PQ) (w : World) : Prop :=
 kint .i64 .lss x13 x12 fun v8 =>
 kB v8 fun b17 => kIf b17
 (f90_2 x0 x1 x12 x13 J4 Q w)
 (f90_4 Q w)
def f90_0 (x0 x1 : Value) (Q : PQ) (w : World) : Prop :=
 klen x0 fun v6 =>
 kL fun (I : Value → World → Prop) (μ : Value → World → Nat) => I (.int .i64 0) w ∧ ∀ (x13 : Value) (w1 : World), I x13 w1 →
 f90_1 x13 x0 x1 v6 (fun y13 w2 => I y13 w2 ∧ μ y13 w2 < μ x13 w1) Q w1
def f90 (x0 x1 : Value) (Q : PQ) (w : World) : Prop :=
 klen x0 fun v1 =>
 klen x1 fun v3 =>
 kint .i64 .neq v1 v3 fun v5 =>
 kB v5 fun b18 => kIf b18
 (Q (.bool false) w)
 (f90_0 x0 x1 Q w)
theorem f90_ok {x0 x1 : Value} {Q : PQ} {w : World} (h : f90 x0 x1 Q w) : Meets Tryz.prog 90 #[x0, x1] w Q :=
 sound' (c := Tryz.f90.body.get rfl) [(4, [13])] Tryz.func90 rfl rfl (args := [x0, x1]) rfl (by kernel_rfl) h
def f91_3 (x1 x2 x15 x16 x17 : Value) (J4 : Value → World → Prop) (Q : PQ) (w : World) : Prop :=
 kint .i64 .add x17 (.int .i64 1) fun v24 =>
 J4 v24 w
def f91_2 (x1 x2 x15 x16 x17 : Value) (J4 : Value → World → Prop) (Q : PQ) (w : World) : Prop :=
 kix (some (.slice 167)) (some 2) x15 x17 fun v9 =>
 kldN 2 v9 w fun v10 =>
 knew #[.int .i64 0, .slice none 0 0] 167 w fun v11 w12 =>
 kst 2 v11 v10 w12 fun w13 =>
 kix (some (.slice 167)) (some 2) x1 x17 fun v14 =>
 kldN 2 v14 w13 fun v15 =>
 knew #[.int .i64 0, .slice none 0 0] 167 w13 fun v16 w17 =>
 kst 2 v16 v15 w17 fun w18 =>
 kldN 2 v11 w18 fun v19 =>
 kldN 2 v16 w18 fun v20 =>
 kcallV Tryz.prog x2 [v19, v20] w18 fun v21 w22 =>
 kun .not (some .bool) v21 fun v23 =>
 kB v23 fun b25 => kIf b25
 (Q (.bool false) w22)
 (f91_3 x1 x2 x15 x16 x17 J4 Q w22)
def f91_4 (Q : PQ) (w : World) : Prop :=
 Q (.bool true) w
def f91_1 (x17 x1 x2 x15 x16 : Value) (J4 : Value → World → Prop) (Q : PQ) (w : World) : Prop :=
 kint .i64 .lss x17 x16 fun v8 =>
 kB v8 fun b26 => kIf b26
 (f91_2 x1 x2 x15 x16 x17 J4 Q w)
 (f91_4 Q w)
def f91_0 (x0 x1 x2 : Value) (Q : PQ) (w : World) : Prop :=
 klen x0 fun v6 =>
 kL fun (I : Value → World → Prop) (μ : Value → World → Nat) => I (.int .i64 0) w ∧ ∀ (x17 : Value) (w1 : World), I x17 w1 →
 f91_1 x17 x1 x2 x0 v6 (fun y17 w2 => I y17 w2 ∧ μ y17 w2 < μ x17 w1) Q w1
def f91 (x0 x1 x2 : Value) (Q : PQ) (w : World) : Prop :=
 klen x0 fun v1 =>
 klen x1 fun v3 =>
 kint .i64 .neq v1 v3 fun v5 =>
 kB v5 fun b27 => kIf b27
 (Q (.bool false) w)
 (f91_0 x0 x1 x2 Q w)
theorem f91_ok {x0 x1 x2 : Value} {Q : PQ} {w : World} (h : f91 x0 x1 x2 Q w) : Meets Tryz.prog 91 #[x0, x1, x2] w Q :=
 sound' (c := Tryz.f91.body.get rfl) [(4, [17])] Tryz.func91 rfl rfl (args := [x0, x1, x2]) rfl (by kernel_rfl) h
def f92_3 (x0 x1 x12 x13 : Value) (J4 : Value → World → Prop) (Q : PQ) (w : World) : Prop :=
 kint .i64 .add x13 (.int .i64 1) fun v14 =>
 J4 v14 w
def f92_2 (x0 x1 x12 x13 : Value) (J4 : Value → World → Prop) (Q : PQ) (w : World) : Prop :=
 kix (some (.slice 3)) (some 1) x0 x13 fun v9 =>
 kld v9 w.drew fun v10 =>
 kG (w.drew = w.drew) <|
 kix (some (.slice 3)) (some 1) x1 x13 fun v11 =>
 kld v11 w.drew fun v12 =>
 kG (w.drew = w.drew) <|
 kint .i64 .neq v10 v12 fun v13 =>
 kB v13 fun b15 => kIf b15
 (Q (.bool false) w.drew)
 (f92_3 x0 x1 x12 x13 J4 Q w.drew)
def f92_4 (Q : PQ) (w : World) : Prop :=
 Q (.bool true) w
def f92_1 (x13 x0 x1 x12 : Value) (J4 : Value → World → Prop) (Q : PQ) (w : World) : Prop :=
 kint .i64 .lss x13 x12 fun v8 =>
 kB v8 fun b16 => kIf b16
 (f92_2 x0 x1 x12 x13 J4 Q w)
 (f92_4 Q w)
def f92_0 (x0 x1 : Value) (Q : PQ) (w : World) : Prop :=
 klen x0 fun v6 =>
 kL fun (I : Value → World → Prop) (μ : Value → World → Nat) => I (.int .i64 0) w ∧ ∀ (x13 : Value) (w1 : World), I x13 w1 →
 f92_1 x13 x0 x1 v6 (fun y13 w2 => I y13 w2 ∧ μ y13 w2 < μ x13 w1) Q w1
def f92 (x0 x1 : Value) (Q : PQ) (w : World) : Prop :=
 klen x0 fun v1 =>
 klen x1 fun v3 =>
 kint .i64 .neq v1 v3 fun v5 =>
 kB v5 fun b17 => kIf b17
 (Q (.bool false) w)
 (f92_0 x0 x1 Q w)
theorem f92_ok {x0 x1 : Value} {Q : PQ} {w : World} (h : f92 x0 x1 Q w) : Meets Tryz.prog 92 #[x0, x1] w Q :=
 sound' (c := Tryz.f92.body.get rfl) [(4, [13])] Tryz.func92 rfl rfl (args := [x0, x1]) rfl (by kernel_rfl) h
def f21_2 (x2 x3 x8 x10 x11 : Value) (Q : PQ) (w : World) : Prop :=
 kldN 2 x11 w.drew fun v33 =>
 kG (w.drew = w.drew) <|
 kcall Tryz.prog 74 #[] w.drew fun v34 w35 =>
 kG (kldN 2 x11 w35 fun v44 =>
 v44 = v33 ∧ w35 = w35) <|
 kldN 2 x3 w35 fun v36 =>
 kG (w35 = w35) <|
 kG (kldN 2 x3 w.drew fun v43 =>
 v43 = v36 ∧ w.drew = w.drew) <|
 kcall Tryz.prog 75 #[v36] w35 fun v37 w38 =>
 kG (kldN 2 x11 w38 fun v42 =>
 v42 = v33 ∧ w38 = w38) <|
 kbld [.slice none 0 0, .slice none 0 0, .pointer none, .pointer none, .pointer none, .int .u32 0, .int .i64 0, .int .i64 0, .pointer none] [(0, 2, v33), (2, 1, x8), (3, 1, v34), (4, 1, x10), (5, 1, v37), (7, 1, x2)] fun v39 =>
 knew (Value.cells v39) 150 w38 fun v40 w41 =>
 Q (.tuple #[v40, .nilIface]) w41
def f21_1 (x2 x3 x8 x10 : Value) (Q : PQ) (w : World) : Prop :=
 (kfld 0 x3 fun v21 =>
 kld v21 w.drew fun v22 =>
 kG (w.drew = w.drew) <|
 kcall Tryz.prog 47 #[v22] w.drew fun v23 w24 =>
 (kfld 1 x3 fun v25 =>
 kld v25 w24 fun v26 =>
 kG (w24 = w24) <|
 kG (kld v25 w.drew fun v47 =>
 v47 = v26 ∧ w.drew = w.drew) <|
 kcall Tryz.prog 48 #[v26] w24 fun v27 w28 =>
 knew #[.slice none 0 0, .slice none 0 0] 33 w28 fun v29 w30 =>
 kG (kld v25 w30 fun v46 =>
 v46 = v26 ∧ w30 = w30) <|
 kG (kld v21 w30 fun v45 =>
 v45 = v22 ∧ w30 = w30) <|
 kbld [.slice none 0 0, .slice none 0 0] [(0, 1, v23), (1, 1, v27)] fun v31 =>
 kst 2 v29 v31 w30 fun w32 =>
 f21_2 x2 x3 x8 x10 v29 Q w32) ∧
 (knew #[.slice none 0 0, .slice none 0 0] 33 w24 fun v48 w49 =>
 kG (kld v21 w49 fun v58 =>
 v58 = v22 ∧ w49 = w49) <|
 kfld 1 x3 fun v50 =>
 kld v50 w49 fun v51 =>
 kG (w49 = w49) <|
 kG (kld v50 w24 fun v57 =>
 v57 = v51 ∧ w24 = w24) <|
 kG (kld v50 w.drew fun v56 =>
 v56 = v51 ∧ w.drew = w.drew) <|
 kcall Tryz.prog 48 #[v51] w49 fun v52 w53 =>
 kbld [.slice none 0 0, .slice none 0 0] [(0, 1, v23), (1, 1, v52)] fun v54 =>
 kst 2 v48 v54 w53 fun w55 =>
 f21_2 x2 x3 x8 x10 v48 Q w55)) ∧
 (knew #[.slice none 0 0, .slice none 0 0] 33 w.drew fun v59 w60 =>
 kfld 0 x3 fun v61 =>
 kld v61 w60 fun v62 =>
 kG (w60 = w60) <|
 kG (kld v61 w.drew fun v73 =>
 v73 = v62 ∧ w.drew = w.drew) <|
 kcall Tryz.prog 47 #[v62] w60 fun v63 w64 =>
 kfld 1 x3 fun v65 =>
 kld v65 w64 fun v66 =>
 kG (w64 = w64) <|
 kG (kld v65 w60 fun v72 =>
 v72 = v66 ∧ w60 = w60) <|
 kG (kld v65 w.drew fun v71 =>
 v71 = v66 ∧ w.drew = w.drew) <|
 kcall Tryz.prog 48 #[v66] w64 fun v67 w68 =>
 kbld [.slice none 0 0, .slice none 0 0] [(0, 1, v63), (1, 1, v67)] fun v69 =>
 kst 2 v59 v69 w68 fun w70 =>
 f21_2 x2 x3 x8 x10 v59 Q w70)
def f21_0 (x2 x3 x8 : Value) (Q : PQ) (w : World) : Prop :=
 kldN 2 x3 w fun v12 =>
 kcall Tryz.prog 73 #[v12] w fun v13 w14 =>
 kext v13 0 fun v15 =>
 kext v13 1 fun v16 =>
 keq Tryz.prog .neq 27 false true v16 .nilIface w14 fun v17 w18 =>
 kB v17 fun b74 => kIf b74
 (kcall Tryz.prog 72 #[v16] w18 fun v19 w20 =>
 Q (.tuple #[.pointer none, v19]) w20)
 (f21_1 x2 x3 x8 v15 Q w18)
def f21 (x0 x1 x2 : Value) (Q : PQ) (w : World) : Prop :=
 knew (Value.cells x0) 33 w fun v1 w2 =>
 kldN 2 v1 w2 fun v3 =>
 kcall Tryz.prog 8 #[v3, x1] w2 fun v4 w5 =>
 kext v4 0 fun v6 =>
 kext v4 1 fun v7 =>
 keq Tryz.prog .neq 27 false true v7 .nilIface w5 fun v8 w9 =>
 kB v8 fun b75 => kIf b75
 (kcall Tryz.prog 72 #[v7] w9 fun v10 w11 =>
 Q (.tuple #[.pointer none, v10]) w11)
 (f21_0 x2 v1 v6 Q w9)
theorem f21_ok {x0 x1 x2 : Value} {Q : PQ} {w : World} (h : f21 x0 x1 x2 Q w) : Meets Tryz.prog 21 #[x0, x1, x2] w Q :=
 sound' (c := Tryz.f21.body.get rfl) [] Tryz.func21 rfl rfl (args := [x0, x1, x2]) rfl (by kernel_rfl) h
def f72 (x0 : Value) (Q : PQ) (w : World) : Prop :=
 kcall Tryz.prog 103 #[(.string ⟨#[119, 111, 114, 108, 100]⟩), x0] w fun v1 w2 =>
 Q v1 w2
theorem f72_ok {x0 : Value} {Q : PQ} {w : World} (h : f72 x0 Q w) : Meets Tryz.prog 72 #[x0] w Q :=
 sound' (c := Tryz.f72.body.get rfl) [] Tryz.func72 rfl rfl (args := [x0]) rfl (by kernel_rfl) h
def f84 (x0 x1 : Value) (Q : PQ) (w : World) : Prop :=
 knew (Value.cells x1) 163 w fun v1 w2 =>
 kN x0 <|
 kfld 8 x0 fun v3 =>
 kld v3 w2 fun v4 =>
 keq Tryz.prog .neq 148 false true v4 (.pointer none) w2 fun v5 w6 =>
 kB v5 fun b12 => kIf b12
 (kN x0 <|
 kfld 8 x0 fun v7 =>
 kld v7 w6.drew fun v8 =>
 kG (w6.drew = w6.drew) <|
 kldN 11 v1 w6.drew fun v9 =>
 kG (w6.drew = w6.drew) <|
 kcall Tryz.prog 134 #[v8, v9] w6.drew fun v10 w11 =>
 Q (.tuple #[]) w11)
 (Q (.tuple #[]) w6)
theorem f84_ok {x0 x1 : Value} {Q : PQ} {w : World} (h : f84 x0 x1 Q w) : Meets Tryz.prog 84 #[x0, x1] w Q :=
 sound' (c := Tryz.f84.body.get rfl) [] Tryz.func84 rfl rfl (args := [x0, x1]) rfl (by kernel_rfl) h
def f156 (x0 x1 x2 x3 : Value) (Q : PQ) (w : World) : Prop :=
 knew (Value.cells x3) 47 w fun v1 w2 =>
 kN x0 <|
 kfld 5 x0 fun v3 =>
 kld v3 w2.drew fun v4 =>
 kG (w2.drew = w2.drew) <|
 kfld 0 v1 fun v5 =>
 kld v5 w2.drew fun v6 =>
 kG (w2.drew = w2.drew) <|
 kcall Tryz.prog 87 #[v4, v6] w2.drew fun v7 w8 =>
 kB v7 fun b13 => kIf b13
 (kldN 6 v1 w8 fun v9 =>
 kbld [.int .i64 0, .int .i64 0, .int .i64 0, .int .i64 0, .int .i64 0, .int .i64 0, .int .i64 0, .int .i64 0, .slice none 0 0, .int .i64 0, .int .i64 0] [(0, 1, x1), (1, 1, x2), (2, 6, v9)] fun v10 =>
 kcall Tryz.prog 84 #[x0, v10] w8 fun v11 w12 =>
 Q (.tuple #[]) w12)
 (Q (.tuple #[]) w8)
theorem f156_ok {x0 x1 x2 x3 : Value} {Q : PQ} {w : World} (h : f156 x0 x1 x2 x3 Q w) : Meets Tryz.prog 156 #[x0, x1, x2, x3] w Q :=
 sound' (c := Tryz.f156.body.get rfl) [] Tryz.func156 rfl rfl (args := [x0, x1, x2, x3]) rfl (by kernel_rfl) h
def f93_1 (x4 x6 : Value) (Q : PQ) (w : World) : Prop :=
 kldN 2 x6 w fun v27 =>
 kst 2 x4 v27 w fun w28 =>
 kldN 2 x4 w28 fun v29 =>
 Q (.tuple #[v29, .nilIface]) w28
def f93_0 (x0 x1 x4 : Value) (Q : PQ) (w : World) : Prop :=
 kN x0 <|
 kfld 3 x0 fun v11 =>
 kld v11 w fun v12 =>
 kcall Tryz.prog 138 #[v12, x1] w fun v13 w14 =>
 kext v13 0 fun v15 =>
 kext v13 1 fun v16 =>
 knew #[.int .i64 0, .int .i64 0] 37 w14 fun v17 w18 =>
 kst 2 v17 v15 w18 fun w19 =>
 kun .not (some .bool) v16 fun v20 =>
 kB v20 fun b30 => kIf b30
 (kbld [.int .i64 0, .int .i64 0] [] fun v21 =>
 kld (.pointer (some ⟨1, 0, none⟩)) w19 fun v22 =>
 kcall Tryz.prog 72 #[v22] w19 fun v23 w24 =>
 kst 2 x4 v21 w24 fun w25 =>
 kldN 2 x4 w25 fun v26 =>
 Q (.tuple #[v26, v23]) w25)
 (f93_1 x4 v17 Q w19)
def f93 (x0 x1 : Value) (Q : PQ) (w : World) : Prop :=
 knew #[.int .i64 0, .int .i64 0] 37 w fun v1 w2 =>
 keq Tryz.prog .eql 62 false true x0 (.pointer none) w2 fun v3 w4 =>
 kB v3 fun b31 => kIf b31
 (kbld [.int .i64 0, .int .i64 0] [] fun v5 =>
 kld (.pointer (some ⟨2, 0, none⟩)) w4 fun v6 =>
 kcall Tryz.prog 72 #[v6] w4 fun v7 w8 =>
 kst 2 v1 v5 w8 fun w9 =>
 kldN 2 v1 w9 fun v10 =>
 Q (.tuple #[v10, v7]) w9)
 (f93_0 x0 x1 v1 Q w4)
theorem f93_ok {x0 x1 : Value} {Q : PQ} {w : World} (h : f93 x0 x1 Q w) : Meets Tryz.prog 93 #[x0, x1] w Q :=
 sound' (c := Tryz.f93.body.get rfl) [] Tryz.func93 rfl rfl (args := [x0, x1]) rfl (by kernel_rfl) h
def f31_2 (x0 x8 x9 : Value) (Q : PQ) (w : World) : Prop :=
 kbld [.int .i64 0, .int .i64 0, .int .i64 0, .int .i64 0, .int .i64 0, .int .i64 0, .int .i64 0, .int .i64 0, .slice none 0 0, .int .i64 0, .int .i64 0] [(0, 1, (.int .i64 7)), (10, 1, x8)] fun v39 =>
 kcall Tryz.prog 84 #[x0, v39] w fun v40 w41 =>
 kbld [.int .i64 0, .int .i64 0, .int .i64 0, .int .i64 0, .int .i64 0, .int .i64 0, .int .i64 0, .int .i64 0, .slice none 0 0, .int .i64 0, .int .i64 0] [(0, 1, (.int .i64 2)), (1, 1, x9)] fun v42 =>
 kcall Tryz.prog 84 #[x0, v42] w41 fun v43 w44 =>
 Q (.tuple #[x9, .nilIface]) w44
def f31_1 (x0 x6 : Value) (Q : PQ) (w : World) : Prop :=
 kN x0 <|
 kfld 3 x0 fun v19 =>
 kld v19 w fun v20 =>
 kcall Tryz.prog 82 #[v20] w fun v21 w22 =>
 kN x0 <|
 kfld 3 x0 fun v23 =>
 kld v23 w22.drew fun v24 =>
 kG (w22.drew = w22.drew) <|
 kldN 2 x6 w22.drew fun v25 =>
 kG (w22.drew = w22.drew) <|
 kcall Tryz.prog 83 #[v24, v25] w22.drew fun v26 w27 =>
 kext v26 0 fun v28 =>
 kext v26 1 fun v29 =>
 keq Tryz.prog .neq 27 false true v29 .nilIface w27 fun v30 w31 =>
 kB v30 fun b45 => kIf b45
 (kN x0 <|
 kfld 2 x0 fun v32 =>
 kld v32 w31.drew fun v33 =>
 kG (w31.drew = w31.drew) <|
 kldN 2 x6 w31.drew fun v34 =>
 kG (w31.drew = w31.drew) <|
 kcall Tryz.prog 12 #[v33, v34] w31.drew fun v35 w36 =>
 kcall Tryz.prog 72 #[v29] w36 fun v37 w38 =>
 Q (.tuple #[.int .i64 0, v37]) w38)
 (f31_2 x0 v21 v28 Q w31)
def f31_0 (x0 x1 : Value) (Q : PQ) (w : World) : Prop :=
 kN x0 <|
 kfld 2 x0 fun v6 =>
 kld v6 w fun v7 =>
 kcall Tryz.prog 10 #[v7, x1] w fun v8 w9 =>
 kext v8 0 fun v10 =>
 kext v8 1 fun v11 =>
 knew #[.int .i64 0, .int .i64 0] 37 w9 fun v12 w13 =>
 kst 2 v12 v10 w13 fun w14 =>
 keq Tryz.prog .neq 27 false true v11 .nilIface w14 fun v15 w16 =>
 kB v15 fun b46 => kIf b46
 (kcall Tryz.prog 72 #[v11] w16 fun v17 w18 =>
 Q (.tuple #[.int .i64 0, v17]) w18)
 (f31_1 x0 v12 Q w16)
def f31 (x0 x1 : Value) (Q : PQ) (w : World) : Prop :=
 keq Tryz.prog .eql 62 false true x0 (.pointer none) w fun v1 w2 =>
 kB v1 fun b47 => kIf b47
 (kld (.pointer (some ⟨2, 0, none⟩)) w2 fun v3 =>
 kcall Tryz.prog 72 #[v3] w2 fun v4 w5 =>
 Q (.tuple #[.int .i64 0, v4]) w5)
 (f31_0 x0 x1 Q w2)
theorem f31_ok {x0 x1 : Value} {Q : PQ} {w : World} (h : f31 x0 x1 Q w) : Meets Tryz.prog 31 #[x0, x1] w Q :=
 sound' (c := Tryz.f31.body.get rfl) [] Tryz.func31 rfl rfl (args := [x0, x1]) rfl (by kernel_rfl) h
def f155_2 (x8 : Value) (Q : PQ) (w : World) : Prop :=
 Q (.tuple #[x8, .nilIface]) w
def f155_1 (x0 x1 x8 : Value) (Q : PQ) (w : World) : Prop :=
 kN x0 <|
 kfld 3 x0 fun v21 =>
 kld v21 w fun v22 =>
 kcall Tryz.prog 183 #[v22, x1] w fun v23 w24 =>
 kext v23 0 fun v25 =>
 kext v23 1 fun v26 =>
 knew #[.int .i64 0, .int .i64 0] 37 w24 fun v27 w28 =>
 kst 2 v27 v25 w28 fun w29 =>
 keq Tryz.prog .neq 27 false true v26 .nilIface w29 fun v30 w31 =>
 kB v30 fun b34 => kIf b34
 (kcall Tryz.prog 72 #[v26] w31 fun v32 w33 =>
 Q (.tuple #[.slice none 0 0, v32]) w33)
 (f155_2 x8 Q w31)
def f155_0 (x0 x1 x6 : Value) (Q : PQ) (w : World) : Prop :=
 kN x0 <|
 kfld 2 x0 fun v10 =>
 kld v10 w.drew fun v11 =>
 kG (w.drew = w.drew) <|
 kldN 2 x6 w.drew fun v12 =>
 kG (w.drew = w.drew) <|
 kcall Tryz.prog 12 #[v11, v12] w.drew fun v13 w14 =>
 kext v13 0 fun v15 =>
 kext v13 1 fun v16 =>
 keq Tryz.prog .neq 27 false true v16 .nilIface w14 fun v17 w18 =>
 kB v17 fun b35 => kIf b35
 (kcall Tryz.prog 72 #[v16] w18 fun v19 w20 =>
 Q (.tuple #[.slice none 0 0, v19]) w20)
 (f155_1 x0 x1 v15 Q w18)
def f155 (x0 x1 : Value) (Q : PQ) (w : World) : Prop :=
 kcall Tryz.prog 93 #[x0, x1] w fun v1 w2 =>
 kext v1 0 fun v3 =>
 kext v1 1 fun v4 =>
 knew #[.int .i64 0, .int .i64 0] 37 w2 fun v5 w6 =>
 kst 2 v5 v3 w6 fun w7 =>
 keq Tryz.prog .neq 27 false true v4 .nilIface w7 fun v8 w9 =>
 kB v8 fun b36 => kIf b36
 (Q (.tuple #[.slice none 0 0, v4]) w9)
 (f155_0 x0 x1 v5 Q w9)
theorem f155_ok {x0 x1 : Value} {Q : PQ} {w : World} (h : f155 x0 x1 Q w) : Meets Tryz.prog 155 #[x0, x1] w Q :=
 sound' (c := Tryz.f155.body.get rfl) [] Tryz.func155 rfl rfl (args := [x0, x1]) rfl (by kernel_rfl) h
def f128_0 (x0 x1 x5 : Value) (Q : PQ) (w : World) : Prop :=
 kbld [.int .i64 0, .int .i64 0, .int .i64 0, .int .i64 0, .int .i64 0, .int .i64 0, .int .i64 0, .int .i64 0, .slice none 0 0, .int .i64 0, .int .i64 0] [(0, 1, (.int .i64 3)), (1, 1, x1), (8, 1, x5)] fun v7 =>
 kcall Tryz.prog 84 #[x0, v7] w fun v8 w9 =>
 Q .nilIface w9
def f128 (x0 x1 : Value) (Q : PQ) (w : World) : Prop :=
 kcall Tryz.prog 155 #[x0, x1] w fun v1 w2 =>
 kext v1 0 fun v3 =>
 kext v1 1 fun v4 =>
 keq Tryz.prog .neq 27 false true v4 .nilIface w2 fun v5 w6 =>
 kB v5 fun b10 => kIf b10
 (Q v4 w6)
 (f128_0 x0 x1 v3 Q w6)
theorem f128_ok {x0 x1 : Value} {Q : PQ} {w : World} (h : f128 x0 x1 Q w) : Meets Tryz.prog 128 #[x0, x1] w Q :=
 sound' (c := Tryz.f128.body.get rfl) [] Tryz.func128 rfl rfl (args := [x0, x1]) rfl (by kernel_rfl) h
def f129_3 (x0 x1 x2 : Value) (Q : PQ) (w : World) : Prop :=
 kbld [.int .i64 0, .int .i64 0, .int .i64 0, .int .i64 0, .int .i64 0, .int .i64 0] [(0, 1, x2)] fun v35 =>
 kcall Tryz.prog 156 #[x0, .int .i64 4, x1, v35] w fun v36 w37 =>
 Q .nilIface w37
def f129_2 (x0 x1 x2 x7 x9 : Value) (Q : PQ) (w : World) : Prop :=
 kN x0 <|
 kfld 2 x0 fun v25 =>
 kld v25 w.drew fun v26 =>
 kG (w.drew = w.drew) <|
 kldN 2 x7 w.drew fun v27 =>
 kG (w.drew = w.drew) <|
 kldN 6 x9 w.drew fun v28 =>
 kG (w.drew = w.drew) <|
 kcall Tryz.prog 13 #[v26, v27, v28] w.drew fun v29 w30 =>
 keq Tryz.prog .neq 27 false true v29 .nilIface w30 fun v31 w32 =>
 kB v31 fun b38 => kIf b38
 (kcall Tryz.prog 72 #[v29] w32 fun v33 w34 =>
 Q v33 w34)
 (f129_3 x0 x1 x2 Q w32)
def f129_1 (x0 x1 x2 x7 x8 x9 : Value) (Q : PQ) (w : World) : Prop :=
 keq Tryz.prog .neq 27 false true x8 .nilIface w fun v21 w22 =>
 kB v21 fun b39 => kIf b39
 (kcall Tryz.prog 72 #[x8] w22 fun v23 w24 =>
 Q v23 w24)
 (f129_2 x0 x1 x2 x7 x9 Q w22)
def f129_0 (x0 x1 x2 x7 : Value) (Q : PQ) (w : World) : Prop :=
 (kN x0 <|
 kfld 0 x0 fun v10 =>
 kldN 2 v10 w.drew fun v11 =>
 kG (w.drew = w.drew) <|
 kN x0 <|
 kfld 6 x0 fun v12 =>
 kld v12 w.drew fun v13 =>
 kG (w.drew = w.drew) <|
 kcall Tryz.prog 154 #[v11, x2, v13] w.drew fun v14 w15 =>
 knew #[.int .i64 0, .int .i64 0, .int .i64 0, .int .i64 0, .int .i64 0, .int .i64 0] 47 w15 fun v16 w17 =>
 kG (kld v12 w17 fun v41 =>
 v41 = v13 ∧ w17 = w17) <|
 kG (kldN 2 v10 w17 fun v40 =>
 v40 = v11 ∧ w17 = w17) <|
 kext v14 0 fun v18 =>
 kst 6 v16 v18 w17 fun w19 =>
 kext v14 1 fun v20 =>
 f129_1 x0 x1 x2 x7 v20 v16 Q w19) ∧
 (knew #[.int .i64 0, .int .i64 0, .int .i64 0, .int .i64 0, .int .i64 0, .int .i64 0] 47 w.drew fun v42 w43 =>
 kN x0 <|
 kfld 0 x0 fun v44 =>
 kldN 2 v44 w43 fun v45 =>
 kG (w43 = w43) <|
 kG (kldN 2 v44 w.drew fun v54 =>
 v54 = v45 ∧ w.drew = w.drew) <|
 kN x0 <|
 kfld 6 x0 fun v46 =>
 kld v46 w43 fun v47 =>
 kG (w43 = w43) <|
 kG (kld v46 w.drew fun v53 =>
 v53 = v47 ∧ w.drew = w.drew) <|
 kcall Tryz.prog 154 #[v45, x2, v47] w43 fun v48 w49 =>
 kext v48 0 fun v50 =>
 kst 6 v42 v50 w49 fun w51 =>
 kext v48 1 fun v52 =>
 f129_1 x0 x1 x2 x7 v52 v42 Q w51)
def f129 (x0 x1 x2 : Value) (Q : PQ) (w : World) : Prop :=
 kcall Tryz.prog 93 #[x0, x1] w fun v1 w2 =>
 kext v1 0 fun v3 =>
 kext v1 1 fun v4 =>
 knew #[.int .i64 0, .int .i64 0] 37 w2 fun v5 w6 =>
 kst 2 v5 v3 w6 fun w7 =>
 keq Tryz.prog .neq 27 false true v4 .nilIface w7 fun v8 w9 =>
 kB v8 fun b55 => kIf b55
 (Q v4 w9)
 (f129_0 x0 x1 x2 v5 Q w9)
theorem f129_ok {x0 x1 x2 : Value} {Q : PQ} {w : World} (h : f129 x0 x1 x2 Q w) : Meets Tryz.prog 129 #[x0, x1, x2] w Q :=
 sound' (c := Tryz.f129.body.get rfl) [] Tryz.func129 rfl rfl (args := [x0, x1, x2]) rfl (by kernel_rfl) h
def f130_2 (x0 x1 x9 : Value) (Q : PQ) (w : World) : Prop :=
 kldN 6 x9 w fun v24 =>
 kcall Tryz.prog 156 #[x0, .int .i64 5, x1, v24] w fun v25 w26 =>
 Q .nilIface w26
def f130_1 (x0 x1 x8 x9 : Value) (Q : PQ) (w : World) : Prop :=
 keq Tryz.prog .neq 27 false true x8 .nilIface w fun v20 w21 =>
 kB v20 fun b27 => kIf b27
 (kcall Tryz.prog 72 #[x8] w21 fun v22 w23 =>
 Q v22 w23)
 (f130_2 x0 x1 x9 Q w21)
def f130_0 (x0 x1 x2 x7 : Value) (Q : PQ) (w : World) : Prop :=
 (kN x0 <|
 kfld 2 x0 fun v10 =>
 kld v10 w.drew fun v11 =>
 kG (w.drew = w.drew) <|
 kldN 2 x7 w.drew fun v12 =>
 kG (w.drew = w.drew) <|
 kcall Tryz.prog 14 #[v11, v12, x2] w.drew fun v13 w14 =>
 knew #[.int .i64 0, .int .i64 0, .int .i64 0, .int .i64 0, .int .i64 0, .int .i64 0] 47 w14 fun v15 w16 =>
 kG (kldN 2 x7 w16 fun v29 =>
 v29 = v12 ∧ w16 = w16) <|
 kG (kld v10 w16 fun v28 =>
 v28 = v11 ∧ w16 = w16) <|
 kext v13 0 fun v17 =>
 kst 6 v15 v17 w16 fun w18 =>
 kext v13 1 fun v19 =>
 f130_1 x0 x1 v19 v15 Q w18) ∧
 (knew #[.int .i64 0, .int .i64 0, .int .i64 0, .int .i64 0, .int .i64 0, .int .i64 0] 47 w.drew fun v30 w31 =>
 kN x0 <|
 kfld 2 x0 fun v32 =>
 kld v32 w31 fun v33 =>
 kG (w31 = w31) <|
 kG (kld v32 w.drew fun v41 =>
 v41 = v33 ∧ w.drew = w.drew) <|
 kldN 2 x7 w31 fun v34 =>
 kG (w31 = w31) <|
 kG (kldN 2 x7 w.drew fun v40 =>
 v40 = v34 ∧ w.drew = w.drew) <|
 kcall Tryz.prog 14 #[v33, v34, x2] w31 fun v35 w36 =>
 kext v35 0 fun v37 =>
 kst 6 v30 v37 w36 fun w38 =>
 kext v35 1 fun v39 =>
 f130_1 x0 x1 v39 v30 Q w38)
def f130 (x0 x1 x2 : Value) (Q : PQ) (w : World) : Prop :=
 kcall Tryz.prog 93 #[x0, x1] w fun v1 w2 =>
 kext v1 0 fun v3 =>
 kext v1 1 fun v4 =>
 knew #[.int .i64 0, .int .i64 0] 37 w2 fun v5 w6 =>
 kst 2 v5 v3 w6 fun w7 =>
 keq Tryz.prog .neq 27 false true v4 .nilIface w7 fun v8 w9 =>
 kB v8 fun b42 => kIf b42
 (Q v4 w9)
 (f130_0 x0 x1 x2 v5 Q w9)
theorem f130_ok {x0 x1 x2 : Value} {Q : PQ} {w : World} (h : f130 x0 x1 x2 Q w) : Meets Tryz.prog 130 #[x0, x1, x2] w Q :=
 sound' (c := Tryz.f130.body.get rfl) [] Tryz.func130 rfl rfl (args := [x0, x1, x2]) rfl (by kernel_rfl) h
def f71_2 (x6 x10 : Value) (Q : PQ) (w : World) : Prop :=
 kldN 6 x10 w fun v32 =>
 kst 6 x6 v32 w fun w33 =>
 kldN 6 x6 w33 fun v34 =>
 Q (.tuple #[v34, .nilIface]) w33
def f71_1 (x6 x9 x10 : Value) (Q : PQ) (w : World) : Prop :=
 keq Tryz.prog .neq 27 false true x9 .nilIface w fun v25 w26 =>
 kB v25 fun b35 => kIf b35
 (kbld [.int .i64 0, .int .i64 0, .int .i64 0, .int .i64 0, .int .i64 0, .int .i64 0] [] fun v27 =>
 kcall Tryz.prog 72 #[x9] w26 fun v28 w29 =>
 kst 6 x6 v27 w29 fun w30 =>
 kldN 6 x6 w30 fun v31 =>
 Q (.tuple #[v31, v28]) w30)
 (f71_2 x6 x10 Q w26)
def f71_0 (x0 x2 x6 x8 : Value) (Q : PQ) (w : World) : Prop :=
 (kN x0 <|
 kfld 2 x0 fun v15 =>
 kld v15 w.drew fun v16 =>
 kG (w.drew = w.drew) <|
 kldN 2 x8 w.drew fun v17 =>
 kG (w.drew = w.drew) <|
 kcall Tryz.prog 37 #[v16, v17, x2] w.drew fun v18 w19 =>
 knew #[.int .i64 0, .int .i64 0, .int .i64 0, .int .i64 0, .int .i64 0, .int .i64 0] 47 w19 fun v20 w21 =>
 kG (kldN 2 x8 w21 fun v37 =>
 v37 = v17 ∧ w21 = w21) <|
 kG (kld v15 w21 fun v36 =>
 v36 = v16 ∧ w21 = w21) <|
 kext v18 0 fun v22 =>
 kst 6 v20 v22 w21 fun w23 =>
 kext v18 1 fun v24 =>
 f71_1 x6 v24 v20 Q w23) ∧
 (knew #[.int .i64 0, .int .i64 0, .int .i64 0, .int .i64 0, .int .i64 0, .int .i64 0] 47 w.drew fun v38 w39 =>
 kN x0 <|
 kfld 2 x0 fun v40 =>
 kld v40 w39 fun v41 =>
 kG (w39 = w39) <|
 kG (kld v40 w.drew fun v49 =>
 v49 = v41 ∧ w.drew = w.drew) <|
 kldN 2 x8 w39 fun v42 =>
 kG (w39 = w39) <|
 kG (kldN 2 x8 w.drew fun v48 =>
 v48 = v42 ∧ w.drew = w.drew) <|
 kcall Tryz.prog 37 #[v41, v42, x2] w39 fun v43 w44 =>
 kext v43 0 fun v45 =>
 kst 6 v38 v45 w44 fun w46 =>
 kext v43 1 fun v47 =>
 f71_1 x6 v47 v38 Q w46)
def f71 (x0 x1 x2 : Value) (Q : PQ) (w : World) : Prop :=
 knew #[.int .i64 0, .int .i64 0, .int .i64 0, .int .i64 0, .int .i64 0, .int .i64 0] 47 w fun v1 w2 =>
 kcall Tryz.prog 93 #[x0, x1] w2 fun v3 w4 =>
 kext v3 0 fun v5 =>
 kext v3 1 fun v6 =>
 knew #[.int .i64 0, .int .i64 0] 37 w4 fun v7 w8 =>
 kst 2 v7 v5 w8 fun w9 =>
 keq Tryz.prog .neq 27 false true v6 .nilIface w9 fun v10 w11 =>
 kB v10 fun b50 => kIf b50
 (kbld [.int .i64 0, .int .i64 0, .int .i64 0, .int .i64 0, .int .i64 0, .int .i64 0] [] fun v12 =>
 kst 6 v1 v12 w11 fun w13 =>
 kldN 6 v1 w13 fun v14 =>
 Q (.tuple #[v14, v6]) w13)
 (f71_0 x0 x2 v1 v7 Q w11)
theorem f71_ok {x0 x1 x2 : Value} {Q : PQ} {w : World} (h : f71 x0 x1 x2 Q w) : Meets Tryz.prog 71 #[x0, x1, x2] w Q :=
 sound' (c := Tryz.f71.body.get rfl) [] Tryz.func71 rfl rfl (args := [x0, x1, x2]) rfl (by kernel_rfl) h
def f34_1 (x8 : Value) (Q : PQ) (w : World) : Prop :=
 Q (.tuple #[x8, .nilIface]) w
def f34_0 (x0 x6 : Value) (Q : PQ) (w : World) : Prop :=
 kN x0 <|
 kfld 2 x0 fun v10 =>
 kld v10 w.drew fun v11 =>
 kG (w.drew = w.drew) <|
 kldN 2 x6 w.drew fun v12 =>
 kG (w.drew = w.drew) <|
 kcall Tryz.prog 17 #[v11, v12] w.drew fun v13 w14 =>
 kext v13 0 fun v15 =>
 kext v13 1 fun v16 =>
 keq Tryz.prog .neq 27 false true v16 .nilIface w14 fun v17 w18 =>
 kB v17 fun b21 => kIf b21
 (kcall Tryz.prog 72 #[v16] w18 fun v19 w20 =>
 Q (.tuple #[.slice none 0 0, v19]) w20)
 (f34_1 v15 Q w18)
def f34 (x0 x1 : Value) (Q : PQ) (w : World) : Prop :=
 kcall Tryz.prog 93 #[x0, x1] w fun v1 w2 =>
 kext v1 0 fun v3 =>
 kext v1 1 fun v4 =>
 knew #[.int .i64 0, .int .i64 0] 37 w2 fun v5 w6 =>
 kst 2 v5 v3 w6 fun w7 =>
 keq Tryz.prog .neq 27 false true v4 .nilIface w7 fun v8 w9 =>
 kB v8 fun b22 => kIf b22
 (Q (.tuple #[.slice none 0 0, v4]) w9)
 (f34_0 x0 v5 Q w9)
theorem f34_ok {x0 x1 : Value} {Q : PQ} {w : World} (h : f34 x0 x1 Q w) : Meets Tryz.prog 34 #[x0, x1] w Q :=
 sound' (c := Tryz.f34.body.get rfl) [] Tryz.func34 rfl rfl (args := [x0, x1]) rfl (by kernel_rfl) h
def f127_0 (x0 : Value) (Q : PQ) (w : World) : Prop :=
 kN x0 <|
 kfld 6 x0 fun v3 =>
 kld v3 w fun v4 =>
 Q v4 w
def f127 (x0 : Value) (Q : PQ) (w : World) : Prop :=
 keq Tryz.prog .eql 62 false true x0 (.pointer none) w fun v1 w2 =>
 kB v1 fun b5 => kIf b5
 (Q (.int .i64 0) w2)
 (f127_0 x0 Q w2)
theorem f127_ok {x0 : Value} {Q : PQ} {w : World} (h : f127 x0 Q w) : Meets Tryz.prog 127 #[x0] w Q :=
 sound' (c := Tryz.f127.body.get rfl) [] Tryz.func127 rfl rfl (args := [x0]) rfl (by kernel_rfl) h
def f85_3 (x0 x2 x13 x14 x15 : Value) (J4 : Value → Value → World → Prop) (Q : PQ) (w : World) : Prop :=
 kint .i64 .add x15 (.int .i64 1) fun v18 =>
 J4 x2 v18 w
def f85_4 (x0 x2 x4 x5 x13 x14 x15 : Value) (J4 : Value → Value → World → Prop) (Q : PQ) (w : World) : Prop :=
 kbld [.int .i64 0, .slice none 0 0] [(0, 1, x4), (1, 1, x5)] fun v19 =>
 kbldS [.int .i64 0, .slice none 0 0] 1 [(0, 2, v19)] 167 w fun v20 w21 =>
 ksem Tryz.prog (Builtin.append_ #[84, 84] 0 #[x2, v20]) w21 fun v22 w23 =>
 f85_3 x0 v22 x13 x14 x15 J4 Q w23
def f85_2 (x0 x2 x13 x14 x15 : Value) (J4 : Value → Value → World → Prop) (Q : PQ) (w : World) : Prop :=
 kix (some (.slice 3)) (some 1) x13 x15 fun v10 =>
 kld v10 w fun v11 =>
 kcall Tryz.prog 34 #[x0, v11] w fun v12 w13 =>
 kext v12 0 fun v14 =>
 kext v12 1 fun v15 =>
 keq Tryz.prog .neq 27 false true v15 .nilIface w13 fun v16 w17 =>
 kB v16 fun b24 => kIf b24
 (f85_3 x0 x2 x13 x14 x15 J4 Q w17)
 (f85_4 x0 x2 v11 v14 x13 x14 x15 J4 Q w17)
def f85_5 (x2 : Value) (Q : PQ) (w : World) : Prop :=
 Q x2 w
def f85_1 (x2 x15 x0 x13 x14 : Value) (J4 : Value → Value → World → Prop) (Q : PQ) (w : World) : Prop :=
 kint .i64 .lss x15 x14 fun v9 =>
 kB v9 fun b25 => kIf b25
 (f85_2 x0 x2 x13 x14 x15 J4 Q w)
 (f85_5 x2 Q w)
def f85_0 (x0 x2 : Value) (Q : PQ) (w : World) : Prop :=
 kN x0 <|
 kfld 3 x0 fun v3 =>
 kld v3 w fun v4 =>
 kcall Tryz.prog 135 #[v4] w fun v5 w6 =>
 klen v5 fun v7 =>
 kL fun (I : Value → Value → World → Prop) (μ : Value → Value → World → Nat) => I x2 (.int .i64 0) w6 ∧ ∀ (x2 x15 : Value) (w1 : World), I x2 x15 w1 →
 f85_1 x2 x15 x0 v5 v7 (fun y2 y15 w2 => I y2 y15 w2 ∧ μ y2 y15 w2 < μ x2 x15 w1) Q w1
def f85 (x0 : Value) (Q : PQ) (w : World) : Prop :=
 keq Tryz.prog .eql 62 false true x0 (.pointer none) w fun v1 w2 =>
 kB v1 fun b26 => kIf b26
 (Q (.slice none 0 0) w2)
 (f85_0 x0 (.slice none 0 0) Q w2)
theorem f85_ok {x0 : Value} {Q : PQ} {w : World} (h : f85 x0 Q w) : Meets Tryz.prog 85 #[x0] w Q :=
 sound' (c := Tryz.f85.body.get rfl) [(4, [2, 15])] Tryz.func85 rfl rfl (args := [x0]) rfl (by kernel_rfl) h
def f32_3 (x1 x2 x3 x12 x13 : Value) (J5 : Value → World → Prop) (Q : PQ) (w : World) : Prop :=
 kint .i64 .add x13 (.int .i64 1) fun v24 =>
 J5 v24 w
def f32_2 (x1 x2 x3 x12 x13 : Value) (J5 : Value → World → Prop) (Q : PQ) (w : World) : Prop :=
 kix (some (.slice 167)) (some 2) x3 x13 fun v17 =>
 kN v17 <|
 kfld 1 v17 fun v18 =>
 kld v18 w fun v19 =>
 kcall Tryz.prog 63 #[v19, (.func (.func 86) #[] #[x1])] w fun v20 w21 =>
 kN v17 <|
 kfld 1 v17 fun v22 =>
 kst 1 v22 v20 w21 fun w23 =>
 f32_3 x1 x2 x3 x12 x13 J5 Q w23
def f32_4 (x1 x2 x3 : Value) (Q : PQ) (w : World) : Prop :=
 kld x1 w.drew fun v25 =>
 kG (w.drew = w.drew) <|
 kN v25 <|
 kfld 6 v25 fun v26 =>
 kld v26 w.drew fun v27 =>
 kG (w.drew = w.drew) <|
 kld x1 w.drew fun v28 =>
 kG (w.drew = w.drew) <|
 kN v28 <|
 kfld 3 v28 fun v29 =>
 kld v29 w.drew fun v30 =>
 kG (w.drew = w.drew) <|
 kcall Tryz.prog 82 #[v30] w.drew fun v31 w32 =>
 kG (kld v26 w32 fun v53 =>
 v53 = v27 ∧ w32 = w32) <|
 kG (kld x1 w32 fun v52 =>
 v52 = v25 ∧ w32 = w32) <|
 kld x1 w32 fun v33 =>
 kG (w32 = w32) <|
 kG (kld x1 w.drew fun v51 =>
 v51 = v33 ∧ w.drew = w.drew) <|
 kN v33 <|
 kfld 7 v33 fun v34 =>
 kld v34 w32 fun v35 =>
 kG (w32 = w32) <|
 kG (kld v34 w.drew fun v50 =>
 v50 = v35 ∧ w.drew = w.drew) <|
 kld x1 w32 fun v36 =>
 kG (w32 = w32) <|
 kG (kld x1 w.drew fun v49 =>
 v49 = v36 ∧ w.drew = w.drew) <|
 kN v36 <|
 kfld 4 v36 fun v37 =>
 kld v37 w32 fun v38 =>
 kG (w32 = w32) <|
 kG (kld v37 w.drew fun v48 =>
 v48 = v38 ∧ w.drew = w.drew) <|
 kcall Tryz.prog 88 #[v38] w32 fun v39 w40 =>
 kG (kld v34 w40 fun v47 =>
 v47 = v35 ∧ w40 = w40) <|
 kG (kld x1 w40 fun v46 =>
 v46 = v33 ∧ w40 = w40) <|
 kG (kld v26 w40 fun v45 =>
 v45 = v27 ∧ w40 = w40) <|
 kG (kld x1 w40 fun v44 =>
 v44 = v25 ∧ w40 = w40) <|
 kbld [.int .i64 0, .int .i64 0, .int .i64 0, .slice none 0 0, .slice none 0 0] [(0, 1, v27), (1, 1, v31), (2, 1, v35), (3, 1, x3), (4, 1, v39)] fun v41 =>
 kst 5 x2 v41 w40 fun w42 =>
 kldN 5 x2 w42 fun v43 =>
 Q v43 w42
def f32_1 (x13 x1 x2 x3 x12 : Value) (J5 : Value → World → Prop) (Q : PQ) (w : World) : Prop :=
 kint .i64 .lss x13 x12 fun v16 =>
 kB v16 fun b54 => kIf b54
 (f32_2 x1 x2 x3 x12 x13 J5 Q w)
 (f32_4 x1 x2 x3 Q w)
def f32_0 (x1 x2 : Value) (Q : PQ) (w : World) : Prop :=
 kld x1 w fun v11 =>
 kcall Tryz.prog 85 #[v11] w fun v12 w13 =>
 klen v12 fun v14 =>
 kL fun (I : Value → World → Prop) (μ : Value → World → Nat) => I (.int .i64 0) w13 ∧ ∀ (x13 : Value) (w1 : World), I x13 w1 →
 f32_1 x13 x1 x2 v12 v14 (fun y13 w2 => I y13 w2 ∧ μ y13 w2 < μ x13 w1) Q w1
def f32 (x0 : Value) (Q : PQ) (w : World) : Prop :=
 knew (Value.cells x0) 62 w fun v1 w2 =>
 knew #[.int .i64 0, .int .i64 0, .int .i64 0, .slice none 0 0, .slice none 0 0] 87 w2 fun v3 w4 =>
 kld v1 w4 fun v5 =>
 keq Tryz.prog .eql 62 false true v5 (.pointer none) w4 fun v6 w7 =>
 kB v6 fun b55 => kIf b55
 (kbld [.int .i64 0, .int .i64 0, .int .i64 0, .slice none 0 0, .slice none 0 0] [] fun v8 =>
 kst 5 v3 v8 w7 fun w9 =>
 kldN 5 v3 w9 fun v10 =>
 Q v10 w9)
 (f32_0 v1 v3 Q w7)
theorem f32_ok {x0 : Value} {Q : PQ} {w : World} (h : f32 x0 Q w) : Meets Tryz.prog 32 #[x0] w Q :=
 sound' (c := Tryz.f32.body.get rfl) [(5, [13])] Tryz.func32 rfl rfl (args := [x0]) rfl (by kernel_rfl) h
def f86 (x0 x1 : Value) (Q : PQ) (w : World) : Prop :=
 knew (Value.cells x0) 47 w fun v1 w2 =>
 kld x1 w2.drew fun v3 =>
 kG (w2.drew = w2.drew) <|
 kN v3 <|
 kfld 5 v3 fun v4 =>
 kld v4 w2.drew fun v5 =>
 kG (w2.drew = w2.drew) <|
 kfld 0 v1 fun v6 =>
 kld v6 w2.drew fun v7 =>
 kG (w2.drew = w2.drew) <|
 kcall Tryz.prog 87 #[v5, v7] w2.drew fun v8 w9 =>
 kun .not (some .bool) v8 fun v10 =>
 Q v10 w9
theorem f86_ok {x0 x1 : Value} {Q : PQ} {w : World} (h : f86 x0 x1 Q w) : Meets Tryz.prog 86 #[x0, x1] w Q :=
 sound' (c := Tryz.f86.body.get rfl) [] Tryz.func86 rfl rfl (args := [x0, x1]) rfl (by kernel_rfl) h
def f33 (x0 x1 : Value) (Q : PQ) (w : World) : Prop :=
 knew (Value.cells x0) 87 w fun v1 w2 =>
 knew (Value.cells x1) 87 w2 fun v3 w4 =>
 kfld 0 v1 fun v5 =>
 kld v5 w4 fun v6 =>
 kfld 0 v3 fun v7 =>
 kld v7 w4 fun v8 =>
 kint .i64 .eql v6 v8 fun v9 =>
 kB v9 fun b10 => kIf b10
 (kfld 1 v1 fun v11 =>
 kld v11 w4 fun v12 =>
 kfld 1 v3 fun v13 =>
 kld v13 w4 fun v14 =>
 kint .i64 .eql v12 v14 fun v15 =>
 kB v15 fun b16 => kIf b16
 (kfld 2 v1 fun v17 =>
 kld v17 w4 fun v18 =>
 kfld 2 v3 fun v19 =>
 kld v19 w4 fun v20 =>
 kint .i64 .eql v18 v20 fun v21 =>
 kB v21 fun b22 => kIf b22
 (kfld 3 v1 fun v23 =>
 kld v23 w4 fun v24 =>
 kfld 3 v3 fun v25 =>
 kld v25 w4 fun v26 =>
 kcall Tryz.prog 91 #[v24, v26, (.func (.func 89) #[] #[])] w4 fun v27 w28 =>
 kB v27 fun b29 => kIf b29
 (kfld 4 v1 fun v30 =>
 kld v30 w28 fun v31 =>
 kfld 4 v3 fun v32 =>
 kld v32 w28 fun v33 =>
 kcall Tryz.prog 92 #[v31, v33] w28 fun v34 w35 =>
 Q v34 w35)
 (Q (.bool false) w28))
 (Q (.bool false) w4))
 (Q (.bool false) w4))
 (Q (.bool false) w4)
theorem f33_ok {x0 x1 : Value} {Q : PQ} {w : World} (h : f33 x0 x1 Q w) : Meets Tryz.prog 33 #[x0, x1] w Q :=
 sound' (c := Tryz.f33.body.get rfl) [] Tryz.func33 rfl rfl (args := [x0, x1]) rfl (by kernel_rfl) h
def f89 (x0 x1 : Value) (Q : PQ) (w : World) : Prop :=
 knew (Value.cells x0) 167 w fun v1 w2 =>
 knew (Value.cells x1) 167 w2 fun v3 w4 =>
 kfld 0 v1 fun v5 =>
 kld v5 w4 fun v6 =>
 kfld 0 v3 fun v7 =>
 kld v7 w4 fun v8 =>
 kint .i64 .eql v6 v8 fun v9 =>
 kB v9 fun b10 => kIf b10
 (kfld 1 v1 fun v11 =>
 kld v11 w4 fun v12 =>
 kfld 1 v3 fun v13 =>
 kld v13 w4 fun v14 =>
 kcall Tryz.prog 90 #[v12, v14] w4 fun v15 w16 =>
 Q v15 w16)
 (Q (.bool false) w4)
theorem f89_ok {x0 x1 : Value} {Q : PQ} {w : World} (h : f89 x0 x1 Q w) : Meets Tryz.prog 89 #[x0, x1] w Q :=
 sound' (c := Tryz.f89.body.get rfl) [] Tryz.func89 rfl rfl (args := [x0, x1]) rfl (by kernel_rfl) h
def f75 (x0 : Value) (Q : PQ) (w : World) : Prop :=
 knew (Value.cells x0) 33 w fun v1 w2 =>
 kldN 2 v1 w2 fun v3 =>
 kcall Tryz.prog 125 #[v3, .bool true] w2 fun v4 w5 =>
 Q v4 w5
theorem f75_ok {x0 : Value} {Q : PQ} {w : World} (h : f75 x0 Q w) : Meets Tryz.prog 75 #[x0] w Q :=
 sound' (c := Tryz.f75.body.get rfl) [] Tryz.func75 rfl rfl (args := [x0]) rfl (by kernel_rfl) h
def f125_2 (x1 x4 x8 x9 x10 : Value) (J2 : Value → Value → World → Prop) (Q : PQ) (w : World) : Prop :=
 kint .i64 .add x10 (.int .i64 1) fun v18 =>
 J2 x4 v18 w
def f125_1 (x1 x4 x8 x9 x10 : Value) (J2 : Value → Value → World → Prop) (Q : PQ) (w : World) : Prop :=
 kix (some (.slice 105)) (some 7) x8 x10 fun v8 =>
 kldN 7 v8 w fun v9 =>
 knew #[(.string ⟨#[]⟩), .int .i64 0, .bool false, .int .i64 0, .int .i64 0, .int .i64 0, .int .i64 0] 105 w fun v10 w11 =>
 kst 7 v10 v9 w11 fun w12 =>
 kfld 2 v10 fun v13 =>
 kld v13 w12 fun v14 =>
 kbool .eql v14 x1 fun v15 =>
 kB v15 fun b19 => kIf b19
 (kcall Tryz.prog 110 #[x4, x10] w12 fun v16 w17 =>
 f125_2 x1 v16 x8 x9 x10 J2 Q w17)
 (f125_2 x1 x4 x8 x9 x10 J2 Q w12)
def f125_3 (x4 : Value) (Q : PQ) (w : World) : Prop :=
 Q x4 w
def f125_0 (x4 x10 x1 x8 x9 : Value) (J2 : Value → Value → World → Prop) (Q : PQ) (w : World) : Prop :=
 kint .i64 .lss x10 x9 fun v7 =>
 kB v7 fun b20 => kIf b20
 (f125_1 x1 x4 x8 x9 x10 J2 Q w)
 (f125_3 x4 Q w)
def f125 (x0 x1 : Value) (Q : PQ) (w : World) : Prop :=
 knew (Value.cells x0) 33 w fun v1 w2 =>
 kfld 0 v1 fun v3 =>
 kld v3 w2 fun v4 =>
 klen v4 fun v5 =>
 kL fun (I : Value → Value → World → Prop) (μ : Value → Value → World → Nat) => I (.int .u32 0) (.int .i64 0) w2 ∧ ∀ (x4 x10 : Value) (w1 : World), I x4 x10 w1 →
 f125_0 x4 x10 x1 v4 v5 (fun y4 y10 w2 => I y4 y10 w2 ∧ μ y4 y10 w2 < μ x4 x10 w1) Q w1
theorem f125_ok {x0 x1 : Value} {Q : PQ} {w : World} (h : f125 x0 x1 Q w) : Meets Tryz.prog 125 #[x0, x1] w Q :=
 sound' (c := Tryz.f125.body.get rfl) [(2, [4, 10])] Tryz.func125 rfl rfl (args := [x0, x1]) rfl (by kernel_rfl) h
def f154_1 (x1 x2 x3 x6 : Value) (Q : PQ) (w : World) : Prop :=
 kfld 0 x3 fun v18 =>
 kld v18 w fun v19 =>
 kix (some (.slice 105)) (some 7) v19 x1 fun v20 =>
 kfld 3 v20 fun v21 =>
 kldN 4 v21 w fun v22 =>
 kbld [.int .i64 0, .int .i64 0, .int .i64 0, .int .i64 0, .int .i64 0, .int .i64 0] [(0, 1, x1), (1, 4, v22), (5, 1, x2)] fun v23 =>
 kst 6 x6 v23 w fun w24 =>
 kldN 6 x6 w24 fun v25 =>
 Q (.tuple #[v25, .nilIface]) w24
def f154_0 (x1 x2 x3 x6 x16 : Value) (Q : PQ) (w : World) : Prop :=
 kB x16 fun b26 => kIf b26
 (kbld [.int .i64 0, .int .i64 0, .int .i64 0, .int .i64 0, .int .i64 0, .int .i64 0] [] fun v12 =>
 kld (.pointer (some ⟨4, 0, none⟩)) w fun v13 =>
 kcall Tryz.prog 103 #[(.string ⟨#[99, 111, 109, 112, 111, 110, 101, 110, 116, 115]⟩), v13] w fun v14 w15 =>
 kst 6 x6 v12 w15 fun w16 =>
 kldN 6 x6 w16 fun v17 =>
 Q (.tuple #[v17, v14]) w16)
 (f154_1 x1 x2 x3 x6 Q w)
def f154 (x0 x1 x2 : Value) (Q : PQ) (w : World) : Prop :=
 knew (Value.cells x0) 33 w fun v1 w2 =>
 knew #[.int .i64 0, .int .i64 0, .int .i64 0, .int .i64 0, .int .i64 0, .int .i64 0] 47 w2 fun v3 w4 =>
 kint .i64 .lss x1 (.int .i64 0) fun v5 =>
 kB v5 fun b6 => kIf (!b6)
 (kfld 0 v1 fun v7 =>
 kld v7 w4 fun v8 =>
 klen v8 fun v9 =>
 kint .i64 .geq x1 v9 fun v11 =>
 f154_0 x1 x2 v1 v3 v11 Q w4)
 (f154_0 x1 x2 v1 v3 (.bool true) Q w4)
theorem f154_ok {x0 x1 x2 : Value} {Q : PQ} {w : World} (h : f154 x0 x1 x2 Q w) : Meets Tryz.prog 154 #[x0, x1, x2] w Q :=
 sound' (c := Tryz.f154.body.get rfl) [] Tryz.func154 rfl rfl (args := [x0, x1, x2]) rfl (by kernel_rfl) h
end
section
def f23_2 (x1 x2 : Value) (Q : PQ) (w : World) : Prop :=
 kfld 0 x2 fun v16 =>
 kld v16 w fun v17 =>
 kcall Tryz.prog 47 #[v17] w fun v18 w19 =>
 kbld [.slice none 0 0, .slice none 0 0] [(0, 1, v18)] fun v20 =>
 knew #[.slice none 0 0, .slice none 0 0] 33 w19 fun v21 w22 =>
 kst 2 v21 v20 w22 fun w23 =>
 kldN 2 v21 w23 fun v24 =>
 kbld [.slice none 0 0, .slice none 0 0, .int .i64 0, .slice none 0 0, .int .i64 0, .int .i64 0] [(0, 2, v24), (2, 1, x1)] fun v25 =>
 knew (Value.cells v25) 152 w23 fun v26 w27 =>
 Q (.tuple #[v26, .nilIface]) w27
def f23_1 (x1 x2 x19 : Value) (Q : PQ) (w : World) : Prop :=
 kB x19 fun b28 => kIf b28
 (kld (.pointer (some ⟨4, 0, none⟩)) w fun v13 =>
 kcall Tryz.prog 76 #[v13] w fun v14 w15 =>
 Q (.tuple #[.pointer none, v14]) w15)
 (f23_2 x1 x2 Q w)
def f23_0 (x1 x2 : Value) (Q : PQ) (w : World) : Prop :=
 kint .i64 .lss x1 (.int .i64 0) fun v10 =>
 kB v10 fun b11 => kIf (!b11)
 (kint .i64 .gtr x1 (.int .i64 64) fun v12 =>
 f23_1 x1 x2 v12 Q w)
 (f23_1 x1 x2 (.bool true) Q w)
def f23 (x0 x1 : Value) (Q : PQ) (w : World) : Prop :=
 knew (Value.cells x0) 33 w fun v1 w2 =>
 kldN 2 v1 w2 fun v3 =>
 kcall Tryz.prog 43 #[v3] w2 fun v4 w5 =>
 keq Tryz.prog .neq 27 false true v4 .nilIface w5 fun v6 w7 =>
 kB v6 fun b29 => kIf b29
 (kcall Tryz.prog 76 #[v4] w7 fun v8 w9 =>
 Q (.tuple #[.pointer none, v8]) w9)
 (f23_0 x1 v1 Q w7)
theorem f23_ok {x0 x1 : Value} {Q : PQ} {w : World} (h : f23 x0 x1 Q w) : Meets Tryz.prog 23 #[x0, x1] w Q :=
 sound' (c := Tryz.f23.body.get rfl) [] Tryz.func23 rfl rfl (args := [x0, x1]) rfl (by kernel_rfl) h
def f76 (x0 : Value) (Q : PQ) (w : World) : Prop :=
 kcall Tryz.prog 103 #[(.string ⟨#[111, 114, 100, 101, 114, 115]⟩), x0] w fun v1 w2 =>
 Q v1 w2
theorem f76_ok {x0 : Value} {Q : PQ} {w : World} (h : f76 x0 Q w) : Meets Tryz.prog 76 #[x0] w Q :=
 sound' (c := Tryz.f76.body.get rfl) [] Tryz.func76 rfl rfl (args := [x0]) rfl (by kernel_rfl) h
def f77_1 (Q : PQ) (w : World) : Prop :=
 Q (.bool false) w
def f77_0 (x3 x5 x23 : Value) (Q : PQ) (w : World) : Prop :=
 kB x23 fun b24 => kIf b24
 (kfld 3 x3 fun v17 =>
 kld v17 w fun v18 =>
 kint .i64 .geq v18 (.int .i64 0) fun v19 =>
 kB v19 fun b20 => kIf b20
 (kfld 3 x3 fun v21 =>
 kld v21 w fun v22 =>
 kint .i64 .lss v22 x5 fun v23 =>
 Q v23 w)
 (Q (.bool false) w))
 (f77_1 Q w)
def f77 (x0 x1 : Value) (Q : PQ) (w : World) : Prop :=
 knew (Value.cells x1) 69 w fun v1 w2 =>
 kN x0 <|
 kfld 0 x0 fun v3 =>
 kfld 0 v3 fun v4 =>
 kld v4 w2 fun v5 =>
 klen v5 fun v6 =>
 kfld 0 v1 fun v8 =>
 kld v8 w2 fun v9 =>
 kint .i64 .eql v9 (.int .i64 1) fun v10 =>
 kB v10 fun b28 => kIf b28
 (kfld 2 v1 fun v11 =>
 kld v11 w2 fun v12 =>
 kint .u32 .shr v12 v6 fun v13 =>
 kint .u32 .eql v13 (.int .u32 0) fun v14 =>
 Q v14 w2)
 (kint .i64 .eql v9 (.int .i64 2) fun v15 =>
 kB v15 fun b27 => kIf b27
 (Q (.bool true) w2)
 (kint .i64 .eql v9 (.int .i64 3) fun v16 =>
 kB v16 fun b26 => kIf b26
 (f77_0 v1 v6 v16 Q w2)
 (kint .i64 .eql v9 (.int .i64 4) fun v25 =>
 f77_0 v1 v6 v25 Q w2)))
theorem f77_ok {x0 x1 : Value} {Q : PQ} {w : World} (h : f77 x0 x1 Q w) : Meets Tryz.prog 77 #[x0, x1] w Q :=
 sound' (c := Tryz.f77.body.get rfl) [] Tryz.func77 rfl rfl (args := [x0, x1]) rfl (by kernel_rfl) h
def f24_0 (x0 x3 : Value) (Q : PQ) (w : World) : Prop :=
 kN x0 <|
 kfld 4 x0 fun v28 =>
 kld v28 w fun v29 =>
 kint .i64 .add v29 (.int .i64 1) fun v30 =>
 kN x0 <|
 kfld 4 x0 fun v31 =>
 kst 1 v31 v30 w fun w32 =>
 kN x0 <|
 kfld 3 x0 fun v33 =>
 kld v33 w32.drew fun v34 =>
 kG (w32.drew = w32.drew) <|
 kldN 4 x3 w32.drew fun v35 =>
 kG (w32.drew = w32.drew) <|
 kbldS [.int .i64 0, .int .i64 0, .int .u32 0, .int .i64 0] 1 [(0, 4, v35)] 69 w32.drew fun v36 w37 =>
 kG (kld v33 w37 fun v42 =>
 v42 = v34 ∧ w37 = w37) <|
 ksem Tryz.prog (Builtin.append_ #[79, 79] 0 #[v34, v36]) w37 fun v38 w39 =>
 kN x0 <|
 kfld 3 x0 fun v40 =>
 kst 1 v40 v38 w39 fun w41 =>
 Q .nilIface w41
def f24 (x0 x1 : Value) (Q : PQ) (w : World) : Prop :=
 knew (Value.cells x1) 69 w fun v1 w2 =>
 keq Tryz.prog .eql 65 false true x0 (.pointer none) w2 fun v3 w4 =>
 kB v3 fun b45 => kIf b45
 (kld (.pointer (some ⟨2, 0, none⟩)) w4 fun v5 =>
 kcall Tryz.prog 76 #[v5] w4 fun v6 w7 =>
 Q v6 w7)
 (kldN 4 v1 w4 fun v8 =>
 kcall Tryz.prog 77 #[x0, v8] w4 fun v9 w10 =>
 kun .not (some .bool) v9 fun v11 =>
 kB v11 fun b44 => kIf b44
 (kld (.pointer (some ⟨4, 0, none⟩)) w10 fun v12 =>
 kcall Tryz.prog 76 #[v12] w10 fun v13 w14 =>
 Q v13 w14)
 (kN x0 <|
 kfld 4 x0 fun v15 =>
 kld v15 w10.drew fun v16 =>
 kG (w10.drew = w10.drew) <|
 kN x0 <|
 kfld 2 x0 fun v17 =>
 kld v17 w10.drew fun v18 =>
 kG (w10.drew = w10.drew) <|
 kint .i64 .geq v16 v18 fun v19 =>
 kB v19 fun b43 => kIf b43
 (kN x0 <|
 kfld 5 x0 fun v20 =>
 kld v20 w10.drew fun v21 =>
 kint .i64 .add v21 (.int .i64 1) fun v22 =>
 kN x0 <|
 kfld 5 x0 fun v23 =>
 kst 1 v23 v22 w10.drew fun w24 =>
 kld (.pointer (some ⟨0, 0, none⟩)) w24 fun v25 =>
 kcall Tryz.prog 76 #[v25] w24 fun v26 w27 =>
 Q v26 w27)
 (f24_0 x0 v1 Q w10.drew)))
theorem f24_ok {x0 x1 : Value} {Q : PQ} {w : World} (h : f24 x0 x1 Q w) : Meets Tryz.prog 24 #[x0, x1] w Q :=
 sound' (c := Tryz.f24.body.get rfl) [] Tryz.func24 rfl rfl (args := [x0, x1]) rfl (by kernel_rfl) h
def f126_3 (x0 x2 x6 x13 x14 x15 : Value) (J2 : Value → Value → World → Prop) (Q : PQ) (w : World) : Prop :=
 kint .i64 .add x15 (.int .i64 1) fun v24 =>
 J2 x6 v24 w
def f126_2 (x0 x2 x6 x10 x13 x14 x15 : Value) (J2 : Value → Value → World → Prop) (Q : PQ) (w : World) : Prop :=
 kldN 6 x10 w fun v19 =>
 kbldS [.int .i64 0, .int .i64 0, .int .i64 0, .int .i64 0, .int .i64 0, .int .i64 0] 1 [(0, 6, v19)] 47 w fun v20 w21 =>
 ksem Tryz.prog (Builtin.append_ #[40, 40] 0 #[x6, v20]) w21 fun v22 w23 =>
 f126_3 x0 x2 v22 x13 x14 x15 J2 Q w23
def f126_1 (x0 x2 x6 x13 x14 x15 : Value) (J2 : Value → Value → World → Prop) (Q : PQ) (w : World) : Prop :=
 kix (some (.slice 3)) (some 1) x13 x15 fun v6 =>
 kld v6 w fun v7 =>
 kN x0 <|
 kfld 0 x0 fun v8 =>
 kldN 2 v8 w fun v9 =>
 kcall Tryz.prog 154 #[v9, v7, x2] w fun v10 w11 =>
 kext v10 0 fun v12 =>
 kext v10 1 fun v13 =>
 knew #[.int .i64 0, .int .i64 0, .int .i64 0, .int .i64 0, .int .i64 0, .int .i64 0] 47 w11 fun v14 w15 =>
 kst 6 v14 v12 w15 fun w16 =>
 keq Tryz.prog .neq 27 false true v13 .nilIface w16 fun v17 w18 =>
 kB v17 fun b25 => kIf b25
 (Q (.tuple #[.slice none 0 0, v13]) w18)
 (f126_2 x0 x2 x6 v14 x13 x14 x15 J2 Q w18)
def f126_4 (x6 : Value) (Q : PQ) (w : World) : Prop :=
 Q (.tuple #[x6, .nilIface]) w
def f126_0 (x6 x15 x0 x2 x13 x14 : Value) (J2 : Value → Value → World → Prop) (Q : PQ) (w : World) : Prop :=
 kint .i64 .lss x15 x14 fun v5 =>
 kB v5 fun b26 => kIf b26
 (f126_1 x0 x2 x6 x13 x14 x15 J2 Q w)
 (f126_4 x6 Q w)
def f126 (x0 x1 x2 : Value) (Q : PQ) (w : World) : Prop :=
 kcall Tryz.prog 108 #[x1] w fun v1 w2 =>
 klen v1 fun v3 =>
 kL fun (I : Value → Value → World → Prop) (μ : Value → Value → World → Nat) => I (.slice none 0 0) (.int .i64 0) w2 ∧ ∀ (x6 x15 : Value) (w1 : World), I x6 x15 w1 →
 f126_0 x6 x15 x0 x2 v1 v3 (fun y6 y15 w2 => I y6 y15 w2 ∧ μ y6 y15 w2 < μ x6 x15 w1) Q w1
theorem f126_ok {x0 x1 x2 : Value} {Q : PQ} {w : World} (h : f126 x0 x1 x2 Q w) : Meets Tryz.prog 126 #[x0, x1, x2] w Q :=
 sound' (c := Tryz.f126.body.get rfl) [(2, [6, 15])] Tryz.func126 rfl rfl (args := [x0, x1, x2]) rfl (by kernel_rfl) h
def f80_0 (x1 x7 : Value) (Q : PQ) (w : World) : Prop :=
 kcall Tryz.prog 31 #[x1, x7] w fun v16 w17 =>
 kext v16 0 fun v18 =>
 kext v16 1 fun v19 =>
 Q v19 w17
def f80_1 (x1 x5 : Value) (Q : PQ) (w : World) : Prop :=
 kfld 1 x5 fun v34 =>
 kld v34 w fun v35 =>
 kfld 3 x5 fun v36 =>
 kld v36 w fun v37 =>
 kcall Tryz.prog 130 #[x1, v35, v37] w fun v38 w39 =>
 Q v38 w39
def f80 (x0 x1 x2 : Value) (Q : PQ) (w : World) : Prop :=
 knew (Value.cells x2) 69 w fun v1 w2 =>
 kfld 0 v1 fun v3 =>
 kld v3 w2 fun v4 =>
 kint .i64 .eql v4 (.int .i64 1) fun v5 =>
 kB v5 fun b42 => kIf b42
 (kfld 2 v1 fun v6 =>
 kld v6 w2.drew fun v7 =>
 kG (w2.drew = w2.drew) <|
 kcall Tryz.prog 127 #[x1] w2.drew fun v8 w9 =>
 kG (kld v6 w9 fun v21 =>
 v21 = v7 ∧ w9 = w9) <|
 kcall Tryz.prog 126 #[x0, v7, v8] w9 fun v10 w11 =>
 kext v10 0 fun v12 =>
 kext v10 1 fun v13 =>
 keq Tryz.prog .neq 27 false true v13 .nilIface w11 fun v14 w15 =>
 kB v14 fun b20 => kIf b20
 (Q v13 w15)
 (f80_0 x1 v12 Q w15))
 (kint .i64 .eql v4 (.int .i64 2) fun v22 =>
 kB v22 fun b41 => kIf b41
 (kfld 1 v1 fun v23 =>
 kld v23 w2 fun v24 =>
 kcall Tryz.prog 128 #[x1, v24] w2 fun v25 w26 =>
 Q v25 w26)
 (kint .i64 .eql v4 (.int .i64 3) fun v27 =>
 kB v27 fun b40 => kIf b40
 (kfld 1 v1 fun v28 =>
 kld v28 w2 fun v29 =>
 kfld 3 v1 fun v30 =>
 kld v30 w2 fun v31 =>
 kcall Tryz.prog 129 #[x1, v29, v31] w2 fun v32 w33 =>
 Q v32 w33)
 (f80_1 x1 v1 Q w2)))
theorem f80_ok {x0 x1 x2 : Value} {Q : PQ} {w : World} (h : f80 x0 x1 x2 Q w) : Meets Tryz.prog 80 #[x0, x1, x2] w Q :=
 sound' (c := Tryz.f80.body.get rfl) [] Tryz.func80 rfl rfl (args := [x0, x1, x2]) rfl (by kernel_rfl) h
def f26_4 (x0 x1 x4 x20 x21 x22 : Value) (J4 : Value → World → Prop) (Q : PQ) (w : World) : Prop :=
 kint .i64 .add x22 (.int .i64 1) fun v34 =>
 J4 v34 w
def f26_3 (x0 x1 x4 x20 x21 x22 : Value) (J4 : Value → World → Prop) (Q : PQ) (w : World) : Prop :=
 kix (some (.slice 69)) (some 4) x20 x22 fun v19 =>
 kldN 4 v19 w fun v20 =>
 knew #[.int .i64 0, .int .i64 0, .int .u32 0, .int .i64 0] 69 w fun v21 w22 =>
 kst 4 v21 v20 w22 fun w23 =>
 kldN 4 v21 w23 fun v24 =>
 kcall Tryz.prog 80 #[x0, x1, v24] w23 fun v25 w26 =>
 keq Tryz.prog .eql 27 false true v25 .nilIface w26 fun v27 w28 =>
 kB v27 fun b40 => kIf b40
 (kfld 0 x4 fun v29 =>
 kld v29 w28 fun v30 =>
 kint .i64 .add v30 (.int .i64 1) fun v31 =>
 kfld 0 x4 fun v32 =>
 kst 1 v32 v31 w28 fun w33 =>
 f26_4 x0 x1 x4 x20 x21 x22 J4 Q w33)
 (kfld 1 x4 fun v35 =>
 kld v35 w28 fun v36 =>
 kint .i64 .add v36 (.int .i64 1) fun v37 =>
 kfld 1 x4 fun v38 =>
 kst 1 v38 v37 w28 fun w39 =>
 f26_4 x0 x1 x4 x20 x21 x22 J4 Q w39)
def f26_5 (x0 x4 : Value) (Q : PQ) (w : World) : Prop :=
 kN x0 <|
 kfld 3 x0 fun v41 =>
 kst 1 v41 (.slice none 0 0) w fun w42 =>
 kldN 2 x4 w42 fun v43 =>
 kst 2 x4 v43 w42 fun w44 =>
 kldN 2 x4 w44 fun v45 =>
 Q (.tuple #[v45, .nilIface]) w44
def f26_2 (x22 x0 x1 x4 x20 x21 : Value) (J4 : Value → World → Prop) (Q : PQ) (w : World) : Prop :=
 kint .i64 .lss x22 x21 fun v18 =>
 kB v18 fun b46 => kIf b46
 (f26_3 x0 x1 x4 x20 x21 x22 J4 Q w)
 (f26_5 x0 x4 Q w)
def f26_1 (x0 x1 x4 : Value) (Q : PQ) (w : World) : Prop :=
 kN x0 <|
 kfld 3 x0 fun v14 =>
 kld v14 w fun v15 =>
 klen v15 fun v16 =>
 kL fun (I : Value → World → Prop) (μ : Value → World → Nat) => I (.int .i64 0) w ∧ ∀ (x22 : Value) (w1 : World), I x22 w1 →
 f26_2 x22 x0 x1 x4 v15 v16 (fun y22 w2 => I y22 w2 ∧ μ y22 w2 < μ x22 w1) Q w1
def f26_0 (x0 x1 x4 x13 : Value) (Q : PQ) (w : World) : Prop :=
 kB x13 fun b47 => kIf b47
 (kbld [.int .i64 0, .int .i64 0] [] fun v8 =>
 kld (.pointer (some ⟨2, 0, none⟩)) w fun v9 =>
 kcall Tryz.prog 76 #[v9] w fun v10 w11 =>
 kst 2 x4 v8 w11 fun w12 =>
 kldN 2 x4 w12 fun v13 =>
 Q (.tuple #[v13, v10]) w12)
 (f26_1 x0 x1 x4 Q w)
def f26 (x0 x1 : Value) (Q : PQ) (w : World) : Prop :=
 knew #[.int .i64 0, .int .i64 0] 75 w fun v1 w2 =>
 keq Tryz.prog .eql 65 false true x0 (.pointer none) w2 fun v3 w4 =>
 kB v3 fun b5 => kIf (!b5)
 (keq Tryz.prog .eql 62 false true x1 (.pointer none) w4 fun v6 w7 =>
 f26_0 x0 x1 v1 v6 Q w7)
 (f26_0 x0 x1 v1 (.bool true) Q w4)
theorem f26_ok {x0 x1 : Value} {Q : PQ} {w : World} (h : f26 x0 x1 Q w) : Meets Tryz.prog 26 #[x0, x1] w Q :=
 sound' (c := Tryz.f26.body.get rfl) [(4, [22])] Tryz.func26 rfl rfl (args := [x0, x1]) rfl (by kernel_rfl) h
def f27 (x0 : Value) (Q : PQ) (w : World) : Prop :=
 keq Tryz.prog .neq 65 false true x0 (.pointer none) w fun v1 w2 =>
 kB v1 fun b5 => kIf b5
 (kN x0 <|
 kfld 4 x0 fun v3 =>
 kst 1 v3 (.int .i64 0) w2 fun w4 =>
 Q (.tuple #[]) w4)
 (Q (.tuple #[]) w2)
theorem f27_ok {x0 : Value} {Q : PQ} {w : World} (h : f27 x0 Q w) : Meets Tryz.prog 27 #[x0] w Q :=
 sound' (c := Tryz.f27.body.get rfl) [] Tryz.func27 rfl rfl (args := [x0]) rfl (by kernel_rfl) h
def f30_0 (x0 : Value) (Q : PQ) (w : World) : Prop :=
 kN x0 <|
 kfld 3 x0 fun v3 =>
 kld v3 w fun v4 =>
 kcall Tryz.prog 81 #[v4] w fun v5 w6 =>
 Q v5 w6
def f30 (x0 : Value) (Q : PQ) (w : World) : Prop :=
 keq Tryz.prog .eql 65 false true x0 (.pointer none) w fun v1 w2 =>
 kB v1 fun b7 => kIf b7
 (Q (.slice none 0 0) w2)
 (f30_0 x0 Q w2)
theorem f30_ok {x0 : Value} {Q : PQ} {w : World} (h : f30 x0 Q w) : Meets Tryz.prog 30 #[x0] w Q :=
 sound' (c := Tryz.f30.body.get rfl) [] Tryz.func30 rfl rfl (args := [x0]) rfl (by kernel_rfl) h
def f28_0 (x0 : Value) (Q : PQ) (w : World) : Prop :=
 kN x0 <|
 kfld 4 x0 fun v3 =>
 kld v3 w fun v4 =>
 Q v4 w
def f28 (x0 : Value) (Q : PQ) (w : World) : Prop :=
 keq Tryz.prog .eql 65 false true x0 (.pointer none) w fun v1 w2 =>
 kB v1 fun b5 => kIf b5
 (Q (.int .i64 0) w2)
 (f28_0 x0 Q w2)
theorem f28_ok {x0 : Value} {Q : PQ} {w : World} (h : f28 x0 Q w) : Meets Tryz.prog 28 #[x0] w Q :=
 sound' (c := Tryz.f28.body.get rfl) [] Tryz.func28 rfl rfl (args := [x0]) rfl (by kernel_rfl) h
def f29_0 (x0 : Value) (Q : PQ) (w : World) : Prop :=
 kN x0 <|
 kfld 5 x0 fun v3 =>
 kld v3 w fun v4 =>
 Q v4 w
def f29 (x0 : Value) (Q : PQ) (w : World) : Prop :=
 keq Tryz.prog .eql 65 false true x0 (.pointer none) w fun v1 w2 =>
 kB v1 fun b5 => kIf b5
 (Q (.int .i64 0) w2)
 (f29_0 x0 Q w2)
theorem f29_ok {x0 : Value} {Q : PQ} {w : World} (h : f29 x0 Q w) : Meets Tryz.prog 29 #[x0] w Q :=
 sound' (c := Tryz.f29.body.get rfl) [] Tryz.func29 rfl rfl (args := [x0]) rfl (by kernel_rfl) h
def f81_0 (x0 : Value) (Q : PQ) (w : World) : Prop :=
 kbldS [.int .i64 0, .int .i64 0, .int .u32 0, .int .i64 0] 0 [] 69 w fun v3 w4 =>
 ksem Tryz.prog (Builtin.append_ #[79, 79] 0 #[v3, x0]) w4 fun v5 w6 =>
 Q v5 w6
def f81 (x0 : Value) (Q : PQ) (w : World) : Prop :=
 keq Tryz.prog .eql 79 false true x0 (.slice none 0 0) w fun v1 w2 =>
 kB v1 fun b7 => kIf b7
 (Q (.slice none 0 0) w2)
 (f81_0 x0 Q w2)
theorem f81_ok {x0 : Value} {Q : PQ} {w : World} (h : f81 x0 Q w) : Meets Tryz.prog 81 #[x0] w Q :=
 sound' (c := Tryz.f81.body.get rfl) [] Tryz.func81 rfl rfl (args := [x0]) rfl (by kernel_rfl) h
def f20_1 (x1 x3 : Value) (Q : PQ) (w : World) : Prop :=
 kcall Tryz.prog 31 #[x1, .slice none 0 0] w fun v24 w25 =>
 kbld [.int .i64 0, .int .i64 0, .int .u32 0, .int .i64 0] [(0, 1, (.int .i64 1)), (2, 1, (.int .u32 1))] fun v26 =>
 kcall Tryz.prog 24 #[x3, v26] w25 fun v27 w28 =>
 kbld [.int .i64 0, .int .i64 0, .int .u32 0, .int .i64 0] [(0, 1, (.int .i64 2)), (1, 1, (.int .i64 1))] fun v29 =>
 kcall Tryz.prog 24 #[x3, v29] w28 fun v30 w31 =>
 kbld [.int .i64 0, .int .i64 0, .int .u32 0, .int .i64 0] [(0, 1, (.int .i64 2)), (1, 1, (.int .i64 1))] fun v32 =>
 kcall Tryz.prog 24 #[x3, v32] w31 fun v33 w34 =>
 kbld [.int .i64 0, .int .i64 0, .int .u32 0, .int .i64 0] [(0, 1, (.int .i64 1))] fun v35 =>
 kcall Tryz.prog 24 #[x3, v35] w34 fun v36 w37 =>
 kcall Tryz.prog 26 #[x3, x1] w37 fun v38 w39 =>
 kext v38 0 fun v40 =>
 kext v38 1 fun v41 =>
 knew #[.int .i64 0, .int .i64 0] 75 w39 fun v42 w43 =>
 kst 2 v42 v40 w43 fun w44 =>
 kcall Tryz.prog 71 #[x1, .int .i64 2, .int .i64 0] w44 fun v45 w46 =>
 kext v45 0 fun v47 =>
 kext v45 1 fun v48 =>
 knew #[.int .i64 0, .int .i64 0, .int .i64 0, .int .i64 0, .int .i64 0, .int .i64 0] 47 w46 fun v49 w50 =>
 kst 6 v49 v47 w50 fun w51 =>
 kld (.pointer (some ⟨0, 0, none⟩)) w51.drew fun v52 =>
 kG (w51.drew = w51.drew) <|
 kcall Tryz.prog 25 #[v36, v52] w51.drew fun v53 w54 =>
 kB v53 fun b55 => kIf b55
 (kldN 2 v42 w54 fun v56 =>
 kG (w54 = w54) <|
 kbld [.int .i64 0, .int .i64 0] [(0, 1, (.int .i64 2)), (1, 1, (.int .i64 1))] fun v57 =>
 keq Tryz.prog .eql 75 false false v56 v57 w54 fun v58 w59 =>
 kG (w59 = w54) <|
 kB v58 fun b60 => kIf b60
 (keq Tryz.prog .eql 27 false true v41 .nilIface w59 fun v61 w62 =>
 kG (w62 = w59) <|
 kB v61 fun b63 => kIf b63
 (keq Tryz.prog .eql 27 false true v48 .nilIface w62 fun v64 w65 =>
 kG (w65 = w62) <|
 kB v64 fun b66 => kIf b66
 (kfld 1 v49 fun v67 =>
 kldN 4 v67 w65 fun v68 =>
 kG (w65 = w65) <|
 kbld [.int .i64 0, .int .i64 0, .int .i64 0, .int .i64 0] [(0, 1, (.int .i64 4)), (1, 1, (.int .i64 5))] fun v69 =>
 keq Tryz.prog .eql 45 false false v68 v69 w65 fun v70 w71 =>
 kG (w71 = w65) <|
 kB v70 fun b72 => kIf b72
 (kcall Tryz.prog 29 #[x3] w71 fun v73 w74 =>
 kint .i64 .eql v73 (.int .i64 1) fun v75 =>
 kB v75 fun b76 => kIf b76
 (kcall Tryz.prog 28 #[x3] w74 fun v77 w78 =>
 kint .i64 .eql v77 (.int .i64 3) fun v79 =>
 kB v79 fun b80 => kIf b80
 (kcall Tryz.prog 30 #[x3] w78 fun v81 w82 =>
 klen v81 fun v83 =>
 kint .i64 .eql v83 (.int .i64 0) fun v85 =>
 kB v85 fun b86 => kIf b86
 (kbld [.int .i64 0, .int .i64 0, .int .u32 0, .int .i64 0] [] fun v87 =>
 kcall Tryz.prog 24 #[x3, v87] w82 fun v88 w89 =>
 kld (.pointer (some ⟨4, 0, none⟩)) w89 fun v90 =>
 kG (w89 = w89) <|
 kG (kld (.pointer (some ⟨4, 0, none⟩)) w82 fun v93 =>
 v93 = v90 ∧ w82 = w82) <|
 kcall Tryz.prog 25 #[v88, v90] w89 fun v91 w92 =>
 Q v91 w92)
 (Q (.bool false) w82))
 (Q (.bool false) w78))
 (Q (.bool false) w74))
 (Q (.bool false) w71))
 (Q (.bool false) w65))
 (Q (.bool false) w62))
 (Q (.bool false) w59))
 (Q (.bool false) w54)
def f20_0 (x1 x3 x33 : Value) (Q : PQ) (w : World) : Prop :=
 kB x33 fun b94 => kIf b94
 (Q (.bool false) w)
 (f20_1 x1 x3 Q w)
def f20 (Q : PQ) (w : World) : Prop :=
 kcall Tryz.prog 22 #[] w fun v1 w2 =>
 kcall Tryz.prog 21 #[v1, .int .i64 4, .int .i64 1] w2 fun v3 w4 =>
 kext v3 0 fun v5 =>
 kext v3 1 fun v6 =>
 kcall Tryz.prog 22 #[] w4 fun v7 w8 =>
 kcall Tryz.prog 23 #[v7, .int .i64 3] w8 fun v9 w10 =>
 kext v9 0 fun v11 =>
 kext v9 1 fun v12 =>
 keq Tryz.prog .eql 62 false true v5 (.pointer none) w10 fun v13 w14 =>
 kB v13 fun b15 => kIf (!b15)
 (keq Tryz.prog .eql 65 false true v11 (.pointer none) w14 fun v16 w17 =>
 kB v16 fun b18 => kIf (!b18)
 (keq Tryz.prog .neq 27 false true v6 .nilIface w17 fun v19 w20 =>
 kB v19 fun b21 => kIf (!b21)
 (keq Tryz.prog .neq 27 false true v12 .nilIface w20 fun v22 w23 =>
 f20_0 v5 v11 v22 Q w23)
 (f20_0 v5 v11 (.bool true) Q w20))
 (f20_0 v5 v11 (.bool true) Q w17))
 (f20_0 v5 v11 (.bool true) Q w14)
theorem f20_ok {Q : PQ} {w : World} (h : f20 Q w) : Meets Tryz.prog 20 #[] w Q :=
 sound' (c := Tryz.f20.body.get rfl) [] Tryz.func20 rfl rfl (args := []) rfl (by kernel_rfl) h
def f22 (Q : PQ) (w : World) : Prop :=
 knew #[.slice none 0 0, .slice none 0 0] 33 w fun v1 w2 =>
 kbld [.int .i64 0, .int .i64 0, .int .i64 0, .int .i64 0] [(0, 1, (.int .i64 4)), (1, 1, (.int .i64 5))] fun v3 =>
 kbld [(.string ⟨#[]⟩), .int .i64 0, .bool false, .int .i64 0, .int .i64 0, .int .i64 0, .int .i64 0] [(0, 1, (.string ⟨#[112, 111, 115]⟩)), (1, 1, (.int .i64 2)), (2, 1, (.bool true)), (3, 4, v3)] fun v4 =>
 kbld [(.string ⟨#[]⟩), .int .i64 0, .bool false, .int .i64 0, .int .i64 0, .int .i64 0, .int .i64 0] [(0, 1, (.string ⟨#[104, 112]⟩)), (1, 1, (.int .i64 1)), (2, 1, (.bool true))] fun v5 =>
 kbld [(.string ⟨#[]⟩), .int .i64 0, .bool false, .int .i64 0, .int .i64 0, .int .i64 0, .int .i64 0] [(0, 1, (.string ⟨#[108, 111, 111, 107]⟩)), (1, 1, (.int .i64 1))] fun v6 =>
 kbldS [(.string ⟨#[]⟩), .int .i64 0, .bool false, .int .i64 0, .int .i64 0, .int .i64 0, .int .i64 0] 3 [(0, 7, v4), (7, 7, v5), (14, 7, v6)] 105 w2 fun v7 w8 =>
 kbld [.slice none 0 0, .slice none 0 0] [(0, 1, v7)] fun v9 =>
 kst 2 v1 v9 w8 fun w10 =>
 kldN 2 v1 w10 fun v11 =>
 Q v11 w10
theorem f22_ok {Q : PQ} {w : World} (h : f22 Q w) : Meets Tryz.prog 22 #[] w Q :=
 sound' (c := Tryz.f22.body.get rfl) [] Tryz.func22 rfl rfl (args := []) rfl (by kernel_rfl) h
def f5_6 (x0 x3 x5 x7 x9 x10 : Value) (J12 : Value → World → Prop) (Q : PQ) (w : World) : Prop :=
 kint .i64 .add x10 (.int .i64 1) fun v46 =>
 J12 v46 w
def f5_5 (x0 x3 x5 x7 x9 x10 : Value) (J12 : Value → World → Prop) (Q : PQ) (w : World) : Prop :=
 kix (some (.slice 69)) (some 4) x0 x10 fun v42 =>
 kldN 4 v42 w fun v43 =>
 kcall Tryz.prog 24 #[x5, v43] w fun v44 w45 =>
 f5_6 x0 x3 x5 x7 x9 x10 J12 Q w45
def f5_11 (x3 x7 x11 : Value) (Q : PQ) (w : World) : Prop :=
 kbld [.int .i64 0, .int .i64 0, .int .u32 0, .int .i64 0] [(0, 1, (.int .i64 2)), (1, 1, x7)] fun v72 =>
 kcall Tryz.prog 24 #[x11, v72] w fun v73 w74 =>
 kbld [.int .i64 0, .int .i64 0, .int .u32 0, .int .i64 0] [(0, 1, (.int .i64 1)), (2, 1, (.int .u32 3))] fun v75 =>
 kcall Tryz.prog 24 #[x11, v75] w74 fun v76 w77 =>
 kcall Tryz.prog 26 #[x11, x3] w77 fun v78 w79 =>
 kext v78 0 fun v80 =>
 kext v78 1 fun v81 =>
 knew #[.int .i64 0, .int .i64 0] 75 w79 fun v82 w83 =>
 kst 2 v82 v80 w83 fun w84 =>
 kcall Tryz.prog 34 #[x3, x7] w84 fun v85 w86 =>
 kext v85 0 fun v87 =>
 kext v85 1 fun v88 =>
 kint .i64 .add x7 (.int .i64 1) fun v89 =>
 kcall Tryz.prog 34 #[x3, v89] w86 fun v90 w91 =>
 kext v90 0 fun v92 =>
 kext v90 1 fun v93 =>
 kcall Tryz.prog 27 #[.pointer none] w91 fun v94 w95 =>
 kcall Tryz.prog 26 #[.pointer none, x3] w95 fun v96 w97 =>
 kext v96 0 fun v98 =>
 kext v96 1 fun v99 =>
 knew #[.int .i64 0, .int .i64 0] 75 w97 fun v100 w101 =>
 kst 2 v100 v98 w101 fun w102 =>
 kcall Tryz.prog 26 #[x11, .pointer none] w102 fun v103 w104 =>
 kext v103 0 fun v105 =>
 kext v103 1 fun v106 =>
 knew #[.int .i64 0, .int .i64 0] 75 w104 fun v107 w108 =>
 kst 2 v107 v105 w108 fun w109 =>
 keq Tryz.prog .eql 27 false true v81 .nilIface w109.drew fun v110 w111 =>
 kG (w111 = w109.drew) <|
 kB v110 fun b112 => kIf b112
 (kfld 0 v82 fun v113 =>
 kld v113 w111 fun v114 =>
 kG (w111 = w111) <|
 kint .i64 .eql v114 (.int .i64 2) fun v115 =>
 kB v115 fun b116 => kIf b116
 (kld (.pointer (some ⟨1, 0, none⟩)) w111 fun v117 =>
 kG (w111 = w111) <|
 kcall Tryz.prog 25 #[v88, v117] w111 fun v118 w119 =>
 kB v118 fun b120 => kIf b120
 (keq Tryz.prog .eql 27 false true v93 .nilIface w119 fun v121 w122 =>
 kG (w122 = w119) <|
 kB v121 fun b123 => kIf b123
 (klen v92 fun v124 =>
 kint .i64 .eql v124 (.int .i64 2) fun v126 =>
 kB v126 fun b127 => kIf b127
 (kld (.pointer (some ⟨2, 0, none⟩)) w122 fun v128 =>
 kG (w122 = w122) <|
 kcall Tryz.prog 25 #[v99, v128] w122 fun v129 w130 =>
 kB v129 fun b131 => kIf b131
 (kld (.pointer (some ⟨2, 0, none⟩)) w130 fun v132 =>
 kG (w130 = w130) <|
 kcall Tryz.prog 25 #[v106, v132] w130 fun v133 w134 =>
 kB v133 fun b135 => kIf b135
 (kbld [.int .i64 0, .int .i64 0, .int .u32 0, .int .i64 0] [] fun v136 =>
 kcall Tryz.prog 24 #[.pointer none, v136] w134 fun v137 w138 =>
 kld (.pointer (some ⟨2, 0, none⟩)) w138 fun v139 =>
 kG (w138 = w138) <|
 kG (kld (.pointer (some ⟨2, 0, none⟩)) w134 fun v154 =>
 v154 = v139 ∧ w134 = w134) <|
 kcall Tryz.prog 25 #[v137, v139] w138 fun v140 w141 =>
 kB v140 fun b142 => kIf b142
 (kcall Tryz.prog 28 #[.pointer none] w141 fun v143 w144 =>
 kcall Tryz.prog 29 #[.pointer none] w144 fun v145 w146 =>
 kint .i64 .add v143 v145 fun v147 =>
 kcall Tryz.prog 30 #[.pointer none] w146 fun v148 w149 =>
 klen v148 fun v150 =>
 kint .i64 .add v147 v150 fun v152 =>
 kint .i64 .eql v152 (.int .i64 0) fun v153 =>
 Q v153 w149)
 (Q (.bool false) w141))
 (Q (.bool false) w134))
 (Q (.bool false) w130))
 (Q (.bool false) w122))
 (Q (.bool false) w122))
 (Q (.bool false) w119))
 (Q (.bool false) w111))
 (Q (.bool false) w111)
def f5_10 (x3 x7 x11 x95 : Value) (Q : PQ) (w : World) : Prop :=
 kB x95 fun b155 => kIf b155
 (Q (.bool false) w)
 (f5_11 x3 x7 x11 Q w)
def f5_9 (x3 x7 : Value) (Q : PQ) (w : World) : Prop :=
 kcall Tryz.prog 22 #[] w fun v61 w62 =>
 kcall Tryz.prog 23 #[v61, .int .i64 4] w62 fun v63 w64 =>
 kext v63 0 fun v65 =>
 kext v63 1 fun v66 =>
 keq Tryz.prog .eql 65 false true v65 (.pointer none) w64 fun v67 w68 =>
 kB v67 fun b69 => kIf (!b69)
 (keq Tryz.prog .neq 27 false true v66 .nilIface w68 fun v70 w71 =>
 f5_10 x3 x7 v65 v70 Q w71)
 (f5_10 x3 x7 v65 (.bool true) Q w68)
def f5_8 (x3 x7 x84 : Value) (Q : PQ) (w : World) : Prop :=
 kB x84 fun b156 => kIf b156
 (Q (.bool false) w)
 (f5_9 x3 x7 Q w)
def f5_7 (x3 x5 x7 x9 : Value) (Q : PQ) (w : World) : Prop :=
 kldN 5 x9 w.drew fun v47 =>
 kG (w.drew = w.drew) <|
 kcall Tryz.prog 32 #[x3] w.drew fun v48 w49 =>
 kG (kldN 5 x9 w49 fun v157 =>
 v157 = v47 ∧ w49 = w49) <|
 kcall Tryz.prog 33 #[v47, v48] w49 fun v50 w51 =>
 kun .not (some .bool) v50 fun v52 =>
 kB v52 fun b53 => kIf (!b53)
 (kcall Tryz.prog 30 #[x5] w51 fun v54 w55 =>
 klen v54 fun v56 =>
 kcall Tryz.prog 28 #[x5] w55 fun v58 w59 =>
 kint .i64 .neq v56 v58 fun v60 =>
 f5_8 x3 x7 v60 Q w59)
 (f5_8 x3 x7 (.bool true) Q w51)
def f5_4 (x10 x0 x3 x5 x7 x9 : Value) (J12 : Value → World → Prop) (Q : PQ) (w : World) : Prop :=
 klen x0 fun v39 =>
 kint .i64 .lss x10 v39 fun v41 =>
 kB v41 fun b158 => kIf b158
 (f5_5 x0 x3 x5 x7 x9 x10 J12 Q w)
 (f5_7 x3 x5 x7 x9 Q w)
def f5_3 (x0 x3 x5 : Value) (Q : PQ) (w : World) : Prop :=
 kcall Tryz.prog 31 #[x3, .slice none 0 0] w fun v30 w31 =>
 kext v30 0 fun v32 =>
 kext v30 1 fun v33 =>
 kcall Tryz.prog 32 #[x3] w31 fun v34 w35 =>
 knew #[.int .i64 0, .int .i64 0, .int .i64 0, .slice none 0 0, .slice none 0 0] 87 w35 fun v36 w37 =>
 kst 5 v36 v34 w37 fun w38 =>
 kL fun (I : Value → World → Prop) (μ : Value → World → Nat) => I (.int .i64 0) w38 ∧ ∀ (x10 : Value) (w1 : World), I x10 w1 →
 f5_4 x10 x0 x3 x5 v32 v36 (fun y10 w2 => I y10 w2 ∧ μ y10 w2 < μ x10 w1) Q w1
def f5_2 (x0 x3 x5 x52 : Value) (Q : PQ) (w : World) : Prop :=
 kB x52 fun b159 => kIf b159
 (Q (.bool false) w)
 (f5_3 x0 x3 x5 Q w)
def f5_1 (x0 : Value) (Q : PQ) (w : World) : Prop :=
 kcall Tryz.prog 22 #[] w fun v7 w8 =>
 kcall Tryz.prog 21 #[v7, .int .i64 8, .int .i64 1] w8 fun v9 w10 =>
 kext v9 0 fun v11 =>
 kext v9 1 fun v12 =>
 kcall Tryz.prog 22 #[] w10 fun v13 w14 =>
 kcall Tryz.prog 23 #[v13, .int .i64 64] w14 fun v15 w16 =>
 kext v15 0 fun v17 =>
 kext v15 1 fun v18 =>
 keq Tryz.prog .eql 62 false true v11 (.pointer none) w16 fun v19 w20 =>
 kB v19 fun b21 => kIf (!b21)
 (keq Tryz.prog .eql 65 false true v17 (.pointer none) w20 fun v22 w23 =>
 kB v22 fun b24 => kIf (!b24)
 (keq Tryz.prog .neq 27 false true v12 .nilIface w23 fun v25 w26 =>
 kB v25 fun b27 => kIf (!b27)
 (keq Tryz.prog .neq 27 false true v18 .nilIface w26 fun v28 w29 =>
 f5_2 x0 v11 v17 v28 Q w29)
 (f5_2 x0 v11 v17 (.bool true) Q w26))
 (f5_2 x0 v11 v17 (.bool true) Q w23))
 (f5_2 x0 v11 v17 (.bool true) Q w20)
def f5_0 (x0 : Value) (Q : PQ) (w : World) : Prop :=
 klen x0 fun v4 =>
 kint .i64 .gtr v4 (.int .i64 60) fun v6 =>
 kB v6 fun b160 => kIf b160
 (Q (.bool true) w)
 (f5_1 x0 Q w)
def f5 (x0 : Value) (Q : PQ) (w : World) : Prop :=
 kcall Tryz.prog 20 #[] w fun v1 w2 =>
 kun .not (some .bool) v1 fun v3 =>
 kB v3 fun b161 => kIf b161
 (Q (.bool false) w2)
 (f5_0 x0 Q w2)
theorem f5_ok {x0 : Value} {Q : PQ} {w : World} (h : f5 x0 Q w) : Meets Tryz.prog 5 #[x0] w Q :=
 sound' (c := Tryz.f5.body.get rfl) [(12, [10])] Tryz.func5 rfl rfl (args := [x0]) rfl (by kernel_rfl) h
def f6_7 (x0 x3 x5 x7 x9 x11 x12 : Value) (J13 : Value → World → Prop) (Q : PQ) (w : World) : Prop :=
 kint .i64 .add x12 (.int .i64 1) fun v90 =>
 J13 v90 w
def f6_6 (x0 x3 x5 x7 x9 x11 x12 x13 : Value) (J13 : Value → World → Prop) (Q : PQ) (w : World) : Prop :=
 kfld 0 x11 fun v78 =>
 kld v78 w fun v79 =>
 kfld 0 x13 fun v80 =>
 kld v80 w fun v81 =>
 kint .i64 .add v79 v81 fun v82 =>
 kfld 1 x11 fun v83 =>
 kld v83 w fun v84 =>
 kfld 1 x13 fun v85 =>
 kld v85 w fun v86 =>
 kint .i64 .add v84 v86 fun v87 =>
 kbld [.int .i64 0, .int .i64 0] [(0, 1, v82), (1, 1, v87)] fun v88 =>
 kst 2 x11 v88 w fun w89 =>
 f6_7 x0 x3 x5 x7 x9 x11 x12 J13 Q w89
def f6_5 (x0 x3 x5 x7 x9 x11 x12 : Value) (J13 : Value → World → Prop) (Q : PQ) (w : World) : Prop :=
 kix (some (.slice 69)) (some 4) x0 x12 fun v61 =>
 kldN 4 v61 w fun v62 =>
 kcall Tryz.prog 24 #[x7, v62] w fun v63 w64 =>
 kix (some (.slice 69)) (some 4) x0 x12 fun v65 =>
 kldN 4 v65 w64 fun v66 =>
 kcall Tryz.prog 24 #[x9, v66] w64 fun v67 w68 =>
 kcall Tryz.prog 26 #[x9, x5] w68 fun v69 w70 =>
 kext v69 0 fun v71 =>
 kext v69 1 fun v72 =>
 knew #[.int .i64 0, .int .i64 0] 75 w70 fun v73 w74 =>
 kst 2 v73 v71 w74 fun w75 =>
 keq Tryz.prog .neq 27 false true v72 .nilIface w75 fun v76 w77 =>
 kB v76 fun b91 => kIf b91
 (Q (.bool false) w77)
 (f6_6 x0 x3 x5 x7 x9 x11 x12 v73 J13 Q w77)
def f6_8 (x3 x5 x7 x11 : Value) (Q : PQ) (w : World) : Prop :=
 kcall Tryz.prog 26 #[x7, x3] w fun v92 w93 =>
 kext v92 0 fun v94 =>
 kext v92 1 fun v95 =>
 knew #[.int .i64 0, .int .i64 0] 75 w93 fun v96 w97 =>
 kst 2 v96 v94 w97 fun w98 =>
 kcall Tryz.prog 26 #[x7, x3] w98 fun v99 w100 =>
 kext v99 0 fun v101 =>
 kext v99 1 fun v102 =>
 knew #[.int .i64 0, .int .i64 0] 75 w100 fun v103 w104 =>
 kst 2 v103 v101 w104 fun w105 =>
 keq Tryz.prog .eql 27 false true v95 .nilIface w105 fun v106 w107 =>
 kB v106 fun b108 => kIf b108
 (keq Tryz.prog .eql 27 false true v102 .nilIface w107 fun v109 w110 =>
 kB v109 fun b111 => kIf b111
 (kldN 2 v96 w110 fun v112 =>
 kldN 2 x11 w110 fun v113 =>
 keq Tryz.prog .eql 75 false false v112 v113 w110 fun v114 w115 =>
 kB v114 fun b116 => kIf b116
 (kldN 2 v103 w115 fun v117 =>
 kbld [.int .i64 0, .int .i64 0] [] fun v118 =>
 keq Tryz.prog .eql 75 false false v117 v118 w115 fun v119 w120 =>
 kB v119 fun b121 => kIf b121
 (kcall Tryz.prog 32 #[x3] w120 fun v122 w123 =>
 kcall Tryz.prog 32 #[x5] w123 fun v124 w125 =>
 kcall Tryz.prog 33 #[v122, v124] w125 fun v126 w127 =>
 kB v126 fun b128 => kIf b128
 (kcall Tryz.prog 35 #[x3] w127 fun v129 w130 =>
 kcall Tryz.prog 35 #[x5] w130 fun v131 w132 =>
 kint .i64 .eql v129 v131 fun v133 =>
 Q v133 w132)
 (Q (.bool false) w127))
 (Q (.bool false) w120))
 (Q (.bool false) w115))
 (Q (.bool false) w110))
 (Q (.bool false) w107)
def f6_4 (x12 x0 x3 x5 x7 x9 x11 : Value) (J13 : Value → World → Prop) (Q : PQ) (w : World) : Prop :=
 klen x0 fun v58 =>
 kint .i64 .lss x12 v58 fun v60 =>
 kB v60 fun b134 => kIf b134
 (f6_5 x0 x3 x5 x7 x9 x11 x12 J13 Q w)
 (f6_8 x3 x5 x7 x11 Q w)
def f6_3 (x0 x3 x5 x7 x9 : Value) (Q : PQ) (w : World) : Prop :=
 kbld [.int .i64 0, .int .i64 0] [] fun v54 =>
 knew #[.int .i64 0, .int .i64 0] 75 w fun v55 w56 =>
 kst 2 v55 v54 w56 fun w57 =>
 kL fun (I : Value → World → Prop) (μ : Value → World → Nat) => I (.int .i64 0) w57 ∧ ∀ (x12 : Value) (w1 : World), I x12 w1 →
 f6_4 x12 x0 x3 x5 x7 x9 v55 (fun y12 w2 => I y12 w2 ∧ μ y12 w2 < μ x12 w1) Q w1
def f6_2 (x0 x3 x5 x7 x9 x73 : Value) (Q : PQ) (w : World) : Prop :=
 kB x73 fun b135 => kIf b135
 (Q (.bool false) w)
 (f6_3 x0 x3 x5 x7 x9 Q w)
def f6_1 (x0 : Value) (Q : PQ) (w : World) : Prop :=
 kcall Tryz.prog 22 #[] w fun v7 w8 =>
 kcall Tryz.prog 21 #[v7, .int .i64 8, .int .i64 1] w8 fun v9 w10 =>
 kext v9 0 fun v11 =>
 kext v9 1 fun v12 =>
 kcall Tryz.prog 22 #[] w10 fun v13 w14 =>
 kcall Tryz.prog 21 #[v13, .int .i64 8, .int .i64 1] w14 fun v15 w16 =>
 kext v15 0 fun v17 =>
 kext v15 1 fun v18 =>
 kcall Tryz.prog 22 #[] w16 fun v19 w20 =>
 kcall Tryz.prog 23 #[v19, .int .i64 64] w20 fun v21 w22 =>
 kext v21 0 fun v23 =>
 kext v21 1 fun v24 =>
 kcall Tryz.prog 22 #[] w22 fun v25 w26 =>
 kcall Tryz.prog 23 #[v25, .int .i64 64] w26 fun v27 w28 =>
 kext v27 0 fun v29 =>
 kext v27 1 fun v30 =>
 keq Tryz.prog .neq 27 false true v12 .nilIface w28 fun v31 w32 =>
 kB v31 fun b33 => kIf (!b33)
 (keq Tryz.prog .neq 27 false true v18 .nilIface w32 fun v34 w35 =>
 kB v34 fun b36 => kIf (!b36)
 (keq Tryz.prog .neq 27 false true v24 .nilIface w35 fun v37 w38 =>
 kB v37 fun b39 => kIf (!b39)
 (keq Tryz.prog .neq 27 false true v30 .nilIface w38 fun v40 w41 =>
 kB v40 fun b42 => kIf (!b42)
 (keq Tryz.prog .eql 62 false true v11 (.pointer none) w41 fun v43 w44 =>
 kB v43 fun b45 => kIf (!b45)
 (keq Tryz.prog .eql 62 false true v17 (.pointer none) w44 fun v46 w47 =>
 kB v46 fun b48 => kIf (!b48)
 (keq Tryz.prog .eql 65 false true v23 (.pointer none) w47 fun v49 w50 =>
 kB v49 fun b51 => kIf (!b51)
 (keq Tryz.prog .eql 65 false true v29 (.pointer none) w50 fun v52 w53 =>
 f6_2 x0 v11 v17 v23 v29 v52 Q w53)
 (f6_2 x0 v11 v17 v23 v29 (.bool true) Q w50))
 (f6_2 x0 v11 v17 v23 v29 (.bool true) Q w47))
 (f6_2 x0 v11 v17 v23 v29 (.bool true) Q w44))
 (f6_2 x0 v11 v17 v23 v29 (.bool true) Q w41))
 (f6_2 x0 v11 v17 v23 v29 (.bool true) Q w38))
 (f6_2 x0 v11 v17 v23 v29 (.bool true) Q w35))
 (f6_2 x0 v11 v17 v23 v29 (.bool true) Q w32)
def f6_0 (x0 : Value) (Q : PQ) (w : World) : Prop :=
 klen x0 fun v4 =>
 kint .i64 .gtr v4 (.int .i64 60) fun v6 =>
 kB v6 fun b136 => kIf b136
 (Q (.bool true) w)
 (f6_1 x0 Q w)
def f6 (x0 : Value) (Q : PQ) (w : World) : Prop :=
 kcall Tryz.prog 20 #[] w fun v1 w2 =>
 kun .not (some .bool) v1 fun v3 =>
 kB v3 fun b137 => kIf b137
 (Q (.bool false) w2)
 (f6_0 x0 Q w2)
end
section
def rollF (l : List Bool) : Nat := l.zipIdx.foldl (fun m p => if p.1 then m ||| bitF p.2 else m) 0
theorem rollF_snoc (l : List Bool) (x : Bool) : rollF (l ++ [x]) = if x then rollF l ||| bitF l.length else rollF l := by
 simp [rollF, List.zipIdx_append]
theorem fold_lt {α : Type} (f : Nat → α → Nat) (hf : ∀ m x, m < 4294967296 → f m x < 4294967296) : ∀ (l : List α) (m : Nat), m < 4294967296 → l.foldl f m < 4294967296
 | [], m, h => h
 | x :: l, m, h => fold_lt f hf l _ (hf m x h)
theorem or_lt {a b : Nat} (ha : a < 4294967296) (hb : b < 4294967296) : a ||| b < 4294967296 := Nat.or_lt_two_pow (n := 32) (by omega) (by omega)
theorem rollF_lt (l : List Bool) : rollF l < 4294967296 := by
 refine fold_lt _ (fun m x h => ?_) _ 0 (by omega)
 split
 ·exact or_lt h (bitF_lt _)
 ·exact h
def KindsInv (w : World) (l : List Comp) (x y : Value) (wr : World) : Prop := ∃ i : Nat, i ≤ l.length ∧ y = .int .i64 i ∧ x = msk (rollF ((l.map (·.rb)).take i)) ∧ Same w wr
theorem kinds_spec (l : List Comp) (hn : l.length ≤ 4611686018427387903) (a : Option Addr) (c : Nat) (r : Value) (w : World) (hs : SlIs w a l.length 7 (l.flatMap Comp.cells)) (hr : r.cells = #[r]) :
  Meets Tryz.prog 125 #[.agg #[.slice a l.length c, r], .bool true] w fun v w' => v = msk (rollF (l.map (·.rb))) ∧ Same w w' := by
 refine f125_ok ?_
 unfold f125
 simp -dsimp [Value.cells]
 refine kL_of (KindsInv w l) (fun _ y _ => l.length - (RowKit.intOf y).toNat) ⟨⟨0, by omega, rfl, by simp [rollF, msk], (Mod.refl _ _).alloc _⟩, ?_⟩
 rintro x y wr ⟨i, hi, rfl, rfl, hm⟩
 unfold f125_0
 simp -dsimp
 refine kIf_dec (fun hlt => ?_) (fun hge => ?_)
 ·have hlt : i < l.length := by omega
  obtain ⟨b, o, c', t', f', rfl, hb, hle, hcs⟩ := (hs.same hm).at hlt (by omega)
  rw [flat_get Comp.cells 7 (fun _ => rfl) l i hlt] at hcs
  have htk : (l.map (·.rb)).take (i + 1) = (l.map (·.rb)).take i ++ [l[i].rb] := by rw [List.take_succ_eq_append_getElem (by simpa using hlt)]; simp
  have hlen : ((l.map (·.rb)).take i).length = i := by simp; omega
  generalize l[i] = p at *
  have hadd := i64_succ (i := i) (by omega)
  unfold f125_1
  simp -dsimp [hlt, hb, hle, hcs, Comp.cells]
  have hal : ∀ o, Same w (wr.alloc o) := fun o => hm.alloc o
  cases hrb : p.rb with
  | true =>
   simp -dsimp
   refine kcall_of (with_spec _ _ (rollF_lt _) (by omega) (by omega) _) ?_
   rintro v w' ⟨rfl, rfl⟩
   unfold f125_2
   simp -dsimp [hadd]
   refine ⟨⟨i + 1, by omega, rfl, ?_, hal _⟩, by simp [RowKit.intOf]; omega⟩
   rw [htk, rollF_snoc, hrb, if_pos rfl, hlen]
  | false =>
   simp -dsimp
   unfold f125_2
   simp -dsimp [hadd]
   refine ⟨⟨i + 1, by omega, rfl, ?_, hal _⟩, by simp [RowKit.intOf]; omega⟩
   rw [htk, rollF_snoc, hrb, if_neg (by decide)]
 ·have : i = l.length := by omega
  subst this
  unfold f125_3
  exact ⟨by rw [List.take_of_length_le (by simp)], hm⟩
theorem Rollback_spec (l : List Comp) (hn : l.length ≤ 4611686018427387903) (a : Option Addr) (c : Nat) (r : Value) (w : World) (hs : SlIs w a l.length 7 (l.flatMap Comp.cells)) (hr : r.cells = #[r]) :
  Meets Tryz.prog 75 #[.agg #[.slice a l.length c, r]] w fun v w' => v = msk (rollF (l.map (·.rb))) ∧ Same w w' := by
 refine f75_ok ?_
 unfold f75
 simp -dsimp [Value.cells]
 refine kcall_of (kinds_spec l hn a c r _ (hs.same (same_alloc _ _)) hr) ?_
 rintro v w' ⟨rfl, hm⟩
 exact ⟨rfl, (same_alloc _ _).trans hm⟩
end
section
attribute [local irreducible] kO kB kStr kInt kN kG kIf kfld kld kldN kst knew kmap kbld kbldS kext kcnv klenStr klen kcap kprt kprtN kbool kint kstr keq kun ksl kix kiv kta kmk kmm ksem ksemU kextf kcallV kcallM kcall kL
theorem kixfldN_of {α : Type} {F : α → List Value} {sz : Nat} (hF : ∀ x, (F x).length = sz) (hs : 0 < sz) {w w' : World} {a : Option Addr} {l : List α} {c : Nat} {e : TypeId} {k : IntKind} {i j m : Nat} {K : Value → Prop} {vs : List Value}
  (h : SlIs w a l.length sz (l.flatMap F)) (hi : i < l.length) (hm : 0 < m) (hjm : j + m ≤ sz) (hv : ((F l[i]).drop j).take m = vs) (hw : w'.heap = w.heap) (hK : K (.agg vs.toArray)) :
  kix (some (.slice e)) (some sz) (.slice a l.length c) (.int k i) fun v1 => kfld j v1 fun v2 => kldN m v2 w' K := by
 obtain ⟨b, o, cs, t, f, rfl, hb, hle, hc⟩ := h.at hi hs
 rw [flat_get F sz hF l i hi] at hc
 rw [kix_slice]
 refine kG_of (by omega) ?_
 rw [add_mk]
 refine kfld_of ?_
 refine kldN_of (c := cs) (t := t) (f := f) (by unfold blk at *; rw [hw]; exact hb) ?_ ?_ hm hK
 ·simp only [Int.toNat_natCast]
  omega
 ·simp only [Int.toNat_natCast]
  have e1 : (cs.toList.drop (o + i * sz + j)).take m = (((cs.toList.drop (o + i * sz)).take sz).drop j).take m := by
   rw [List.drop_take, List.drop_drop, List.take_take, Nat.min_eq_left (by omega)]
  rw [e1, hc]
  exact hv
def defP (L : List Comp) (c : Nat) (frame : Int) : Part := match L[c]? with
 | some q => ⟨(c : Int), q.d0, q.d1, q.d2, q.d3, frame⟩
 | none => ⟨(c : Int), 0, 0, 0, 0, frame⟩
theorem schemaNew_spec {w : World} {a : Option Addr} {L : List Comp} {cp : Nat} {rv : Value} (hrv : rv.cells = #[rv]) (hs : SlIs w a L.length 7 (L.flatMap Comp.cells)) {c : Nat} (hc : c < L.length) (hl : L.length ≤ 1000) (frame : Int) :
  Meets Tryz.prog 154 #[scV a L.length cp rv, .int .i64 c, .int .i64 frame] w fun v w' => v = .tuple #[.agg (defP L c frame).cells.toArray, .nilIface] ∧ Same w w' := by
 rw [scV]
 refine f154_ok ?_
 unfold f154
 refine knew_of fun w2 h2 hs2 hb2 => ?_
 have hb2 : blk w2 w.heap.size = some (.cells #[.slice a L.length cp, rv] 33) := hb2
 refine knew_of fun w4 h4 hs4 hb4 => ?_
 have hb24 := h4.get hb2 (fun h => h)
 have m4 := h2.trans h4
 refine lss_at ?_
 rw [decF (by omega)]
 refine kB_at ?_
 refine kIf_T rfl ?_
 refine kfld_of ?_
 refine kld_of (v := .slice a L.length cp) hb24 rfl ?_
 refine klen_at ?_
 refine geq_at ?_
 rw [decF (by omega)]
 unfold f154_0
 refine kB_at ?_
 refine kIf_F rfl ?_
 unfold f154_1
 refine kfld_of ?_
 refine kld_of (v := .slice a L.length cp) hb24 rfl ?_
 have hp : defP L c frame = ⟨(c : Int), (L[c]).d0, (L[c]).d1, (L[c]).d2, (L[c]).d3, frame⟩ := by unfold defP; rw [List.getElem?_eq_getElem hc]
 refine kixfldN_of (F := Comp.cells) (sz := 7) (fun _ => rfl) (by omega) (hs.same m4) hc (by omega) (by omega) (vs := [.int .i64 (L[c]).d0, .int .i64 (L[c]).d1, .int .i64 (L[c]).d2, .int .i64 (L[c]).d3]) rfl rfl ?_
 refine kbld_of (cs := (defP L c frame).cells) (by rw [hp]; rfl) ?_
 refine kst_of (vs := (defP L c frame).cells) hb4 rfl rfl rfl (by simp) (by simp [Part.cells]) fun w24 h24 hs24 hb24 => ?_
 have hb24 : blk w24 w2.heap.size = some (.cells (defP L c frame).cells.toArray 47) := hb24
 have hz2 := h2.size
 refine kldN_at (cs := (defP L c frame).cells) hb24 rfl (by omega) ?_
 exact ⟨rfl, m4.trans' (h24.mono fun k _ e => .inr (by omega))⟩
def smallC : List Comp := [⟨⟨#[112, 111, 115]⟩, 2, true, 4, 5, 0, 0⟩, ⟨⟨#[104, 112]⟩, 1, true, 0, 0, 0, 0⟩, ⟨⟨#[108, 111, 111, 107]⟩, 1, false, 0, 0, 0, 0⟩]
theorem smallC_good : GoodSc smallC where
 len := by decide
 names q hq := by
  simp only [smallC, List.mem_cons, List.not_mem_nil, or_false] at hq
  rcases hq with rfl | rfl | rfl <;> exact ⟨by decide, by decide, by decide⟩
 apart i j hi hj e := by
  have hi : i < 3 := hi
  have hj : j < 3 := hj
  have h1 : i = 0 ∨ i = 1 ∨ i = 2 := by omega
  have h2 : j = 0 ∨ j = 1 ∨ j = 2 := by omega
  rcases h1 with rfl | rfl | rfl <;> rcases h2 with rfl | rfl | rfl
  ·rfl
  ·exact absurd (congrArg (fun b : ByteArray => b.data.toList) e) (by simp [smallC])
  ·exact absurd (congrArg (fun b : ByteArray => b.data.toList) e) (by simp [smallC])
  ·exact absurd (congrArg (fun b : ByteArray => b.data.toList) e) (by simp [smallC])
  ·rfl
  ·exact absurd (congrArg (fun b : ByteArray => b.data.toList) e) (by simp [smallC])
  ·exact absurd (congrArg (fun b : ByteArray => b.data.toList) e) (by simp [smallC])
  ·exact absurd (congrArg (fun b : ByteArray => b.data.toList) e) (by simp [smallC])
  ·rfl
 wide q hq := by
  simp only [smallC, List.mem_cons, List.not_mem_nil, or_false] at hq
  rcases hq with rfl | rfl | rfl
  ·exact ⟨2, rfl, by decide, by decide⟩
  ·exact ⟨1, rfl, by decide, by decide⟩
  ·exact ⟨1, rfl, by decide, by decide⟩
 clean q hq := by
  simp only [smallC, List.mem_cons, List.not_mem_nil, or_false] at hq
  rcases hq with rfl | rfl | rfl
  ·exact ⟨fun h => absurd h (by decide), fun _ => rfl, fun _ => rfl⟩
  ·exact ⟨fun _ => rfl, fun _ => rfl, fun _ => rfl⟩
  ·exact ⟨fun _ => rfl, fun _ => rfl, fun _ => rfl⟩
theorem small15_spec (w : World) : Meets Tryz.prog 22 #[] w fun v w' => ∃ a c, v = scV a smallC.length c (.slice none 0 0) ∧ SlIs w' a smallC.length 7 (smallC.flatMap Comp.cells) ∧ Same w w' := by
 refine f22_ok ?_
 unfold f22
 refine knew_of fun w2 h2 hs2 hb2 => ?_
 refine kbld_of (cs := [.int .i64 4, .int .i64 5, .int .i64 0, .int .i64 0]) rfl ?_
 refine kbld_of (cs := [.string ⟨#[112, 111, 115]⟩, .int .i64 2, .bool true, .int .i64 4, .int .i64 5, .int .i64 0, .int .i64 0]) rfl ?_
 refine kbld_of (cs := [.string ⟨#[104, 112]⟩, .int .i64 1, .bool true, .int .i64 0, .int .i64 0, .int .i64 0, .int .i64 0]) rfl ?_
 refine kbld_of (cs := [.string ⟨#[108, 111, 111, 107]⟩, .int .i64 1, .bool false, .int .i64 0, .int .i64 0, .int .i64 0, .int .i64 0]) rfl ?_
 refine kbldS_of (cs := smallC.flatMap Comp.cells) rfl fun w6 h6 hs6 hb6 => ?_
 refine kbld_of (cs := [.slice (some ⟨w2.heap.size, 0, none⟩) 3 3, .slice none 0 0]) rfl ?_
 refine kst_of (vs := [.slice (some ⟨w2.heap.size, 0, none⟩) 3 3, .slice none 0 0]) (h6.get hb2 (fun h => h)) rfl rfl rfl (by simp) (by simp) fun w8 h8 hs8 hb8 => ?_
 have hb8 : blk w8 w.heap.size = some (.cells #[.slice (some ⟨w2.heap.size, 0, none⟩) 3 3, .slice none 0 0] 33) := hb8
 have hb68 := h8.get hb6 (by omega)
 refine kldN_at hb8 rfl (by omega) ?_
 exact ⟨_, _, rfl, SlIs.blk hb68 rfl, (h2.trans h6).trans' (h8.mono fun k _ e => .inr (by omega))⟩
end
section
structure OrdM where
 kind : Int
 id : Int
 mask : Nat
 comp : Int
def OrdM.cells (x : OrdM) : List Value := [.int .i64 x.kind, .int .i64 x.id, msk x.mask, .int .i64 x.comp]
def OrdM.fit (n : Nat) (x : OrdM) : Prop := (x.kind = 1 ∧ x.mask < 2 ^ n) ∨ x.kind = 2 ∨ ((x.kind = 3 ∨ x.kind = 4) ∧ 0 ≤ x.comp ∧ x.comp < n)
def defsL (L : List Comp) (m : Nat) (frame : Int) : List Part := (listF m).map fun c => defP L c frame
def hasC (l : List Part) (c : Int) : Bool := l.any fun q => decide (q.comp = c)
def stepV (L : List Comp) (cap : Nat) (frame : Int) (V : List (Nat × List Part)) (nx : Nat) (x : OrdM) : Option (List (Nat × List Part) × Nat) :=
 if x.kind = 1 then (if V.length < cap then some (V ++ [(nx, defsL L x.mask frame)], nx + 1) else none)
 else match findV V x.id with
  | none => none
  | some y =>
   if x.kind = 2 then some (delV V y.1, nx)
   else if x.kind = 3 then (if hasC y.2 x.comp = true then none else some (setV V y.1 (insP (defP L x.comp.toNat frame) y.2), nx))
   else (if hasC y.2 x.comp = true then some (setV V y.1 (y.2.filter fun q => decide (q.comp ≠ x.comp)), nx) else none)
theorem hasC_true {l : List Part} {c : Int} : hasC l c = true ↔ ∃ q ∈ l, q.comp = c := by
 unfold hasC; simp
theorem hasC_false {l : List Part} {c : Int} : hasC l c = false ↔ ∀ q ∈ l, q.comp ≠ c := by
 unfold hasC; simp
theorem defP_comp (L : List Comp) (c : Nat) (frame : Int) : (defP L c frame).comp = (c : Int) := by
 unfold defP
 split <;> rfl
theorem defsL_comp (L : List Comp) (m : Nat) (frame : Int) : (defsL L m frame).map (·.comp) = (listF m).map fun c : Nat => (c : Int) := by
 unfold defsL
 rw [List.map_map]
 apply List.map_congr_left
 intro c _
 exact defP_comp L c frame
theorem listF_asc (m : Nat) : (listF m).Pairwise (fun a b => a < b) := by
 unfold listF
 exact List.Pairwise.filter _ List.pairwise_lt_range
theorem defsL_nt (L : List Comp) (m : Nat) (frame : Int) : NoTwice (defsL L m frame) := by
 unfold NoTwice
 rw [defsL_comp]
 unfold List.Nodup
 rw [List.pairwise_map]
 exact (listF_asc m).imp fun h e => by omega
theorem defsL_sort (L : List Comp) (m : Nat) (frame : Int) : SortP (defsL L m frame) := by
 have : ((defsL L m frame).map (·.comp)).Pairwise (fun x y : Int => x ≤ y) := by
  rw [defsL_comp, List.pairwise_map]
  exact (listF_asc m).imp fun h => by omega
 rwa [List.pairwise_map] at this
theorem defP_fits {L : List Comp} (hG : GoodSc L) {c : Nat} (hc : c < L.length) (frame : Int) : FitsP L (defP L c frame) := by
 refine ⟨c, defP_comp L c frame, hc, ?_⟩
 obtain ⟨d, hd, h1, h4⟩ := hG.wide _ (List.getElem_mem hc)
 obtain ⟨c1, c2, c3⟩ := hG.clean _ (List.getElem_mem hc)
 rw [hd] at c1 c2 c3
 have hw : wdF L c = d := by
  unfold wdF
  rw [List.getElem?_eq_getElem hc]
  simp [hd]
 have hp : defP L c frame = ⟨(c : Int), (L[c]).d0, (L[c]).d1, (L[c]).d2, (L[c]).d3, frame⟩ := by unfold defP; rw [List.getElem?_eq_getElem hc]
 rw [hw, hp]
 unfold Part.clean Part.vals
 intro x hx
 have h : d = 1 ∨ d = 2 ∨ d = 3 ∨ d = 4 := by omega
 rcases h with rfl | rfl | rfl | rfl
 ·simp at hx
  rcases hx with rfl | rfl | rfl
  ·exact c1 (by omega)
  ·exact c2 (by omega)
  ·exact c3 (by omega)
 ·simp at hx
  rcases hx with rfl | rfl
  ·exact c2 (by omega)
  ·exact c3 (by omega)
 ·simp at hx
  rw [hx]
  exact c3 (by omega)
 ·simp at hx
theorem defsL_fits {L : List Comp} (hG : GoodSc L) {m : Nat} (hm : m < 2 ^ L.length) (frame : Int) : ∀ q ∈ defsL L m frame, FitsP L q := by
 intro q hq
 obtain ⟨c, hc, rfl⟩ := List.mem_map.1 hq
 refine defP_fits hG ?_ frame
 have hb := (listF_mem.1 hc).2
 rcases Nat.lt_or_ge c L.length with h | h
 ·exact h
 ·have := Nat.testBit_lt_two_pow (Nat.lt_of_lt_of_le hm (Nat.pow_le_pow_right (by omega) h))
  rw [this] at hb; cases hb
theorem defsL_len (L : List Comp) (m : Nat) (frame : Int) : (defsL L m frame).length ≤ 32 := by
 unfold defsL
 rw [List.length_map]
 exact listF_len m
theorem viewS_len (S : SM) (B : BdM) : (viewS S B).length = B.l.length := by unfold viewS; simp
theorem Link.full {S : SM} {B : BdM} (h : Link S B) : S.free = [] ↔ ¬ (viewS S B).length < S.gens.length := by
 have := h.cnt
 rw [viewS_len]
 constructor
 ·intro e
  rw [e] at this
  simp at this
  omega
 ·intro hn
  exact List.eq_nil_of_length_eq_zero (by omega)
theorem Link.le {S : SM} {B : BdM} (h : Link S B) (hg : S.gens.length ≤ 64) : B.l.length ≤ 64 := by
 have := h.cnt
 omega
end
section
def f73_3 (x5 x18 x19 x20 : Value) (J6 : Value → World → Prop) (Q : PQ) (w : World) : Prop :=
 kint .i64 .add x20 (.int .i64 1) fun v41 =>
 J6 v41 w
def f73_2 (x5 x18 x19 x20 : Value) (J6 : Value → World → Prop) (Q : PQ) (w : World) : Prop :=
 kix (some (.slice 108)) (some 2) x18 x20 fun v20 =>
 kldN 2 v20 w fun v21 =>
 knew #[(.string ⟨#[]⟩), .int .i64 0] 108 w fun v22 w23 =>
 kst 2 v22 v21 w23 fun w24 =>
 kN x5 <|
 kfld 0 x5 fun v25 =>
 kld v25 w24.drew fun v26 =>
 kG (w24.drew = w24.drew) <|
 kfld 0 v22 fun v27 =>
 kld v27 w24.drew fun v28 =>
 kG (w24.drew = w24.drew) <|
 ksemU Tryz.prog (Instr.mapUpdate 219 v26 v28 x20) w24.drew fun _ w30 =>
 kN x5 <|
 kfld 1 x5 fun v31 =>
 kld v31 w30.drew fun v32 =>
 kG (w30.drew = w30.drew) <|
 kfld 1 v22 fun v33 =>
 kld v33 w30.drew fun v34 =>
 kG (w30.drew = w30.drew) <|
 kbldS [.int .i64 0] 1 [(0, 1, v34)] 3 w30.drew fun v35 w36 =>
 kG (kld v31 w36 fun v42 =>
 v42 = v32 ∧ w36 = w36) <|
 ksem Tryz.prog (Builtin.append_ #[85, 85] 0 #[v32, v35]) w36 fun v37 w38 =>
 kN x5 <|
 kfld 1 x5 fun v39 =>
 kst 1 v39 v37 w38 fun w40 =>
 f73_3 x5 x18 x19 x20 J6 Q w40
def f73_4 (x5 : Value) (Q : PQ) (w : World) : Prop :=
 Q (.tuple #[x5, .nilIface]) w
def f73_1 (x20 x5 x18 x19 : Value) (J6 : Value → World → Prop) (Q : PQ) (w : World) : Prop :=
 kint .i64 .lss x20 x19 fun v19 =>
 kB v19 fun b43 => kIf b43
 (f73_2 x5 x18 x19 x20 J6 Q w)
 (f73_4 x5 Q w)
def f73_0 (x1 : Value) (Q : PQ) (w : World) : Prop :=
 kmap w fun v10 w11 =>
 kbld [.map none, .slice none 0 0, .int .i64 0] [(0, 1, v10)] fun v12 =>
 knew (Value.cells v12) 221 w11 fun v13 w14 =>
 kfld 1 x1 fun v15 =>
 kld v15 w14 fun v16 =>
 klen v16 fun v17 =>
 kL fun (I : Value → World → Prop) (μ : Value → World → Nat) => I (.int .i64 0) w14 ∧ ∀ (x20 : Value) (w1 : World), I x20 w1 →
 f73_1 x20 v13 v16 v17 (fun y20 w2 => I y20 w2 ∧ μ y20 w2 < μ x20 w1) Q w1
def f73 (x0 : Value) (Q : PQ) (w : World) : Prop :=
 knew (Value.cells x0) 33 w fun v1 w2 =>
 kldN 2 v1 w2 fun v3 =>
 kcall Tryz.prog 43 #[v3] w2 fun v4 w5 =>
 keq Tryz.prog .neq 27 false true v4 .nilIface w5 fun v6 w7 =>
 kB v6 fun b44 => kIf b44
 (kcall Tryz.prog 124 #[v4] w7 fun v8 w9 =>
 Q (.tuple #[.pointer none, v8]) w9)
 (f73_0 v1 Q w7)
theorem f73_ok {x0 : Value} {Q : PQ} {w : World} (h : f73 x0 Q w) : Meets Tryz.prog 73 #[x0] w Q :=
 sound' (c := Tryz.f73.body.get rfl) [(6, [20])] Tryz.func73 rfl rfl (args := [x0]) rfl (by kernel_rfl) h
def f88_0 (x0 : Value) (Q : PQ) (w : World) : Prop :=
 kN x0 <|
 kfld 1 x0 fun v3 =>
 kld v3 w fun v4 =>
 kcall Tryz.prog 137 #[v4] w fun v5 w6 =>
 Q v5 w6
def f88 (x0 : Value) (Q : PQ) (w : World) : Prop :=
 keq Tryz.prog .eql 142 false true x0 (.pointer none) w fun v1 w2 =>
 kB v1 fun b7 => kIf b7
 (Q (.slice none 0 0) w2)
 (f88_0 x0 Q w2)
theorem f88_ok {x0 : Value} {Q : PQ} {w : World} (h : f88 x0 Q w) : Meets Tryz.prog 88 #[x0] w Q :=
 sound' (c := Tryz.f88.body.get rfl) [] Tryz.func88 rfl rfl (args := [x0]) rfl (by kernel_rfl) h
end
section
attribute [local irreducible] kO kB kStr kInt kN kG kIf kfld kld kldN kst knew kmap kbld kbldS kext kcnv klenStr klen kcap kprt kprtN kbool kint kstr keq kun ksl kix kiv kta kmk kmm ksem ksemU kextf kcallV kcallM kcall kL
structure WC where
 bw : Nat
 bs : Nat
 bb : Nat
 ca : Option Addr
 cc : Nat
 rv : Value
 bg : Nat
 gm : Value
 gs : Value
 gn : Value
 R : List Int
 L : List Comp
 rolled : Nat
 frame : Int
 seed : Int
def WC.cells (c : WC) : Array Value := #[.slice c.ca c.L.length c.cc, c.rv, .pointer (some ⟨c.bs, 0, none⟩), .pointer (some ⟨c.bb, 0, none⟩), .pointer (some ⟨c.bg, 0, none⟩), msk c.rolled, .int .i64 c.frame, .int .i64 c.seed, .pointer none]
def WC.mine (c : WC) (k : Nat) : Prop := k = c.bw ∨ (∃ f, c.ca = some ⟨k, f, none⟩) ∨ k = c.bg ∨ vblk c.gs k
structure WdAt (c : WC) (w0 : World) (fx : Nat → Prop) (w : World) (S : SM) (t : Nat) (B : BdM) : Prop where
 here : blk w c.bw = some (.cells c.cells 150)
 fm : ∀ k, c.mine k → fx k
 comps : SlIs w c.ca c.L.length 7 (c.L.flatMap Comp.cells)
 gh : blk w c.bg = some (.cells #[c.gm, c.gs, c.gn] 221)
 go : Own w c.gs 1 (c.R.map (Value.int .i64))
 rvc : c.rv.cells = #[c.rv]
 good : GoodSc c.L
 rl : c.rolled < 4294967296
 A : WAt w0 fx c.bs c.bb w S t B
 link : Link S B
 cs : S.cs = c.L
theorem WdAt.fw {c : WC} {w0 : World} {fx : Nat → Prop} {w : World} {S : SM} {t : Nat} {B : BdM} (h : WdAt c w0 fx w S t B) : fx c.bw := h.fm _ (.inl rfl)
theorem WdAt.part {c : WC} {w0 : World} {fx fp : Nat → Prop} {w w' : World} {S : SM} {t : Nat} {B : BdM} (h : WdAt c w0 fx w S t B) (m : Mod fp w w') (hf : ∀ k, c.mine k → ¬ fp k) {fx' : Nat → Prop} {S' : SM} {t' : Nat} {B' : BdM} (hs : ∀ k, c.mine k → fx' k) (hA : WAt w0 fx' c.bs c.bb w' S' t' B') (hl : Link S' B') (hcs : S'.cs = S.cs) : WdAt c w0 fx' w' S' t' B' :=
 ⟨m.get h.here (hf _ (.inl rfl)), hs, h.comps.mod m (fun k f e => hf k (.inr (.inl ⟨f, e⟩))), m.get h.gh (hf _ (.inr (.inr (.inl rfl)))), h.go.mod m (fun k hk => hf k (.inr (.inr (.inr hk)))), h.rvc, h.good, h.rl, hA, hl, hcs.trans h.cs⟩
theorem WdAt.loc {c : WC} {w0 : World} {fx : Nat → Prop} {w w' : World} {S : SM} {t : Nat} {B : BdM} (h : WdAt c w0 fx w S t B) (m : Same w w') : WdAt c w0 fx w' S t B :=
 h.part m (fun _ _ h => h) h.fm (h.A.loc m) h.link rfl
theorem WdAt.step {c : WC} {w0 : World} {fx : Nat → Prop} {w w' : World} {S S' : SM} {t t' : Nat} {B B' : BdM} (h : WdAt c w0 fx w S t B) (hA : WAt w0 fx c.bs c.bb w' S' t' B') (m : Mod (fun k => w0.heap.size ≤ k ∧ ¬ fx k) w w') (hl : Link S' B') (hcs : S'.cs = S.cs) : WdAt c w0 fx w' S' t' B' :=
 h.part m (fun k hk hn => hn.2 (h.fm k hk)) h.fm hA hl hcs
theorem WdAt.other {c : WC} {w0 : World} {fx fp : Nat → Prop} {w w' : World} {S : SM} {t : Nat} {B : BdM} (h : WdAt c w0 fx w S t B) (m : Mod fp w w') (hfp : ∀ k, fp k → fx k ∧ ¬ c.mine k) : WdAt c w0 (fun k => fx k ∨ (w.heap.size ≤ k ∧ k < w'.heap.size)) w' S t B :=
 h.part m (fun k hk hn => (hfp k hn).2 hk) (fun k hk => .inl (h.fm k hk)) (h.A.other m (fun k hk => (hfp k hk).1)) h.link rfl
theorem WdAt.less {c : WC} {w0 : World} {fx fx' : Nat → Prop} {w : World} {S : SM} {t : Nat} {B : BdM} (h : WdAt c w0 fx w S t B) (hs : ∀ k, fx' k → fx k) (h1 : ∀ k, c.mine k → fx' k) : WdAt c w0 fx' w S t B :=
 h.part (Mod.refl (fun _ => False) _) (fun _ _ h => h) h1 (h.A.less hs) h.link rfl
theorem WdAt.gs {c : WC} {w0 : World} {fx : Nat → Prop} {w : World} {S : SM} {t : Nat} {B : BdM} (h : WdAt c w0 fx w S t B) : GS S t := by
 obtain ⟨o, p, U, C, _⟩ := h.A
 exact C.gs
theorem WdAt.wf {c : WC} {w0 : World} {fx : Nat → Prop} {w : World} {S : SM} {t : Nat} {B : BdM} (h : WdAt c w0 fx w S t B) : B.WF := by
 obtain ⟨o, p, U, _, ⟨bo, bi, sv, q⟩, _⟩ := h.A
 exact q.wf
def Out (c : WC) (w0 : World) (fx : Nat → Prop) (w : World) (S : SM) (t : Nat) (B : BdM) (res : Option (List (Nat × List Part) × Nat)) (w' : World) : Prop :=
 ∃ S' B', WdAt c w0 fx w' S' (t + 1) B' ∧ S'.gens.length = S.gens.length ∧ Mod (fun k => w0.heap.size ≤ k ∧ ¬ fx k) w w' ∧ viewS S' B' = (match res with | some x => x.1 | none => viewS S B) ∧ B'.nx = (match res with | some x => x.2 | none => B.nx)
theorem WAt.more {w0 : World} {fx : Nat → Prop} {bs bb : Nat} {w : World} {S : SM} {t t' : Nat} {B : BdM} (h : WAt w0 fx bs bb w S t B) (ht : t ≤ t') : WAt w0 fx bs bb w S t' B := by
 obtain ⟨o, p, U, C, hb, hU, hf⟩ := h
 exact ⟨o, p, U, ⟨C.sp, C.gs.more ht, C.lo, C.hi, C.same⟩, hb, hU, hf⟩
theorem WdAt.more {c : WC} {w0 : World} {fx : Nat → Prop} {w : World} {S : SM} {t t' : Nat} {B : BdM} (h : WdAt c w0 fx w S t B) (ht : t ≤ t') : WdAt c w0 fx w S t' B :=
 h.part (Mod.refl (fun _ => False) _) (fun _ _ h => h) h.fm (h.A.more ht) h.link rfl
theorem Out.none {c : WC} {w0 : World} {fx : Nat → Prop} {w w' : World} {S : SM} {t : Nat} {B : BdM} (h : WdAt c w0 fx w S t B) (m : Same w w') : Out c w0 fx w S t B none w' :=
 ⟨S, B, (h.loc m).more (Nat.le_succ t), rfl, Mod.of_same m, rfl, rfl⟩
theorem ptWor : isPtrT Tryz.prog 62 = true := by kernel_rfl
theorem ptJou : isPtrT Tryz.prog 148 = true := by kernel_rfl
theorem wWrong {Sa : Nat → Addr} {k lo : Nat} {x : Value} {w : World} (h : ErrX Sa k lo x w) (hlo : lo ≤ w.heap.size) : Meets Tryz.prog 72 #[x] w fun v w' => ErrX Sa k lo v w' ∧ Same w w' := by
 refine f72_ok ?_
 unfold f72
 refine kcall_of (atX_spec _ h hlo) ?_
 rintro v w' ⟨h1, h2⟩
 exact ⟨h1, h2⟩
theorem wNote {c : WC} {w : World} (h : blk w c.bw = some (.cells c.cells 150)) (u : Value) : Meets Tryz.prog 84 #[.pointer (some ⟨c.bw, 0, none⟩), u] w fun v w' => v = .tuple #[] ∧ Same w w' := by
 refine f84_ok ?_
 unfold f84
 refine knew_of fun w2 h2 hs2 hb2 => ?_
 have hh := h2.get h (fun h => h)
 refine kN_at ?_
 refine kfld_of ?_
 refine kld_of (v := .pointer none) hh rfl ?_
 rw [keq_ptr_nil' ptJou]
 refine kB_at ?_
 refine kIf_F rfl ?_
 exact ⟨rfl, h2⟩
theorem wNoteOf {c : WC} {w : World} (h : blk w c.bw = some (.cells c.cells 150)) (hr : c.rolled < 4294967296) (kd id : Int) (q : Part) (hq : I64 q.comp) : Meets Tryz.prog 156 #[.pointer (some ⟨c.bw, 0, none⟩), .int .i64 kd, .int .i64 id, .agg q.cells.toArray] w fun v w' => v = .tuple #[] ∧ Same w w' := by
 refine f156_ok ?_
 unfold f156
 refine knew_of fun w2 h2 hs2 hb2 => ?_
 have hb2 : blk w2 w.heap.size = some (.cells q.cells.toArray 47) := hb2
 have md : Same w2 w2.drew := (Mod.refl (fun _ => False) _).drew
 have hh := (h2.trans md).get h (fun h => h)
 have hbd := md.get hb2 (fun h => h)
 refine kN_at ?_
 refine kfld_of ?_
 refine kld_of (v := msk c.rolled) hh rfl ?_
 refine kG_of rfl ?_
 refine kfld_of ?_
 refine kld_of (v := .int .i64 q.comp) hbd (by simp [Part.cells]) ?_
 refine kG_of rfl ?_
 refine kcall_of (has_spec c.rolled q.comp hr hq.1 hq.2 _) ?_
 rintro v w8 ⟨rfl, rfl⟩
 have m2 := h2.trans md
 refine kB_at ?_
 refine kIf_dec (fun _ => ?_) (fun _ => ⟨rfl, m2⟩)
 refine kldN_at (cs := q.cells) hbd rfl (by omega) ?_
 refine kbld_of (cs := .int .i64 kd :: .int .i64 id :: (q.cells ++ [.slice none 0 0, .int .i64 0, .int .i64 0])) rfl ?_
 refine kcall_of (wNote (m2.get h (fun h => h)) _) ?_
 rintro v w12 ⟨rfl, h12⟩
 exact ⟨rfl, m2.trans h12⟩
theorem wEntity_ok {c : WC} {w0 : World} {fx : Nat → Prop} {w : World} {S : SM} {t : Nat} {B : BdM} (h : WdAt c w0 fx w S t B) {x : Int} {y : Nat × EK} (hf : B.l.find? (fun z => decide (((z.1 : Nat) : Int) = x)) = some y) :
  Meets Tryz.prog 93 #[.pointer (some ⟨c.bw, 0, none⟩), .int .i64 x] w fun v w' => v = .tuple #[y.2.v, .nilIface] ∧ Same w w' := by
 refine f93_ok ?_
 unfold f93
 refine knew_of fun w2 h2 hs2 hb2 => ?_
 have hb2 : blk w2 w.heap.size = some (.cells #[.int .i64 0, .int .i64 0] 37) := hb2
 rw [keq_ptr_nil ptWor]
 refine kB_at ?_
 refine kIf_F rfl ?_
 unfold f93_0
 have hh := h2.get h.here (fun h => h)
 refine kN_at ?_
 refine kfld_of ?_
 refine kld_of (v := .pointer (some ⟨c.bb, 0, none⟩)) hh rfl ?_
 obtain ⟨o, p, U, C, hb, hU, hfx⟩ := h.A
 refine kcall_of (bdEntity (hb.same h2) x) ?_
 rintro v w14 ⟨rfl, h14⟩
 rw [hf]
 refine kext_at rfl ?_
 refine kext_at rfl ?_
 have m14 := h2.trans h14
 refine knew_of fun w18 h18 hs18 hb18 => ?_
 refine kst_of (vs := [.int .i64 y.2.i, .int .i64 y.2.g]) hb18 rfl rfl rfl (by simp) (by simp) fun w19 h19 hs19 hb19 => ?_
 have hb19 : blk w19 w14.heap.size = some (.cells #[.int .i64 y.2.i, .int .i64 y.2.g] 37) := hb19
 have m19 : Same w14 w19 := h18.trans' (h19.mono fun k _ e => .inr (by omega))
 have hb219 := m19.get (h14.get hb2 (fun h => h)) (fun h => h)
 have hz14 := m14.size
 refine not_at ?_
 refine kB_at ?_
 refine kIf_F rfl ?_
 unfold f93_1
 refine kldN_at (cs := [.int .i64 y.2.i, .int .i64 y.2.g]) hb19 rfl (by omega) ?_
 refine kst_of (vs := [.int .i64 y.2.i, .int .i64 y.2.g]) hb219 rfl rfl rfl (by simp) (by simp) fun w28 h28 hs28 hb28 => ?_
 have hb28 : blk w28 w.heap.size = some (.cells #[.int .i64 y.2.i, .int .i64 y.2.g] 37) := hb28
 refine kldN_at (cs := [.int .i64 y.2.i, .int .i64 y.2.g]) hb28 rfl (by omega) ?_
 exact ⟨rfl, (m14.trans m19).trans' (h28.mono fun k _ e => .inr (by omega))⟩
theorem wEntity_no {pr : Nat → Prop} {Sa : Nat → Addr} {c : WC} {w0 : World} (hL : LaidP pr Sa w0) (h17 : pr 17) {fx : Nat → Prop} {w : World} {S : SM} {t : Nat} {B : BdM} (h : WdAt c w0 fx w S t B) {x : Int} (hf : B.l.find? (fun z => decide (((z.1 : Nat) : Int) = x)) = none) :
  Meets Tryz.prog 93 #[.pointer (some ⟨c.bw, 0, none⟩), .int .i64 x] w fun v w' => (∃ e, v = .tuple #[entV 0 0, e] ∧ ErrX Sa 17 w.heap.size e w') ∧ Same w w' := by
 refine f93_ok ?_
 unfold f93
 refine knew_of fun w2 h2 hs2 hb2 => ?_
 have hb2 : blk w2 w.heap.size = some (.cells #[.int .i64 0, .int .i64 0] 37) := hb2
 rw [keq_ptr_nil ptWor]
 refine kB_at ?_
 refine kIf_F rfl ?_
 unfold f93_0
 have hh := h2.get h.here (fun h => h)
 refine kN_at ?_
 refine kfld_of ?_
 refine kld_of (v := .pointer (some ⟨c.bb, 0, none⟩)) hh rfl ?_
 have hs0 := h.A.same0
 obtain ⟨o, p, U, C, hb, hU, hfx⟩ := h.A
 refine kcall_of (bdEntity (hb.same h2) x) ?_
 rintro v w14 ⟨rfl, h14⟩
 rw [hf]
 refine kext_at rfl ?_
 refine kext_at rfl ?_
 have m14 := h2.trans h14
 refine knew_of fun w18 h18 hs18 hb18 => ?_
 refine kst_of (vs := [.int .i64 0, .int .i64 0]) hb18 rfl rfl rfl (by simp) (by simp) fun w19 h19 hs19 hb19 => ?_
 have m19 : Same w14 w19 := h18.trans' (h19.mono fun k _ e => .inr (by omega))
 have hb219 := m19.get (h14.get hb2 (fun h => h)) (fun h => h)
 have hz14 := m14.size
 refine not_at ?_
 refine kB_at ?_
 refine kIf_T rfl ?_
 refine kbld_of (cs := [.int .i64 0, .int .i64 0]) rfl ?_
 have mw := m14.trans m19
 refine kld_err (hL.same (hs0.trans mw)) h17 rfl rfl ?_
 have hz2 := h2.size
 refine kcall_of (wWrong (ErrX.sent Sa 17 (w.heap.size + 1) w19) (by have := m19.size; have := h14.size; omega)) ?_
 rintro v w24 ⟨hE, h24⟩
 have hb224 := h24.get hb219 (fun h => h)
 refine kst_of (vs := [.int .i64 0, .int .i64 0]) hb224 rfl rfl rfl (by simp) (by simp) fun w25 h25 hs25 hb25 => ?_
 have hb25 : blk w25 w.heap.size = some (.cells #[.int .i64 0, .int .i64 0] 37) := hb25
 refine kldN_at (cs := [.int .i64 0, .int .i64 0]) hb25 rfl (by omega) ?_
 refine ⟨⟨_, rfl, ?_⟩, (mw.trans h24).trans' (h25.mono fun k _ e => .inr (by omega))⟩
 exact (hE.mod h25 (fun b hlo _ e => by omega)).mono (by omega)
end
section
attribute [local irreducible] kO kB kStr kInt kN kG kIf kfld kld kldN kst knew kmap kbld kbldS kext kcnv klenStr klen kcap kprt kprtN kbool kint kstr keq kun ksl kix kiv kta kmk kmm ksem ksemU kextf kcallV kcallM kcall kL
def ErrI (v : Value) : Prop := ∃ ty y, v = .iface ty y
theorem ek_of {S : SM} {t : Nat} (hG : GS S t) (ht : t ≤ 10000) {i : Nat} {x : Int × Bool} (h : S.gens[i]? = some x) {g : Int} (hg : 0 ≤ g) (hg2 : g ≤ x.1 + 1) : ∃ e : EK, e.i = (i : Int) ∧ e.g = g := by
 have h1 := hG.gen i x h
 have h2 := (List.getElem?_eq_some_iff.1 h).1
 have h3 := hG.g64
 exact ⟨⟨(i : Int), g, by unfold I64; omega, by unfold I64; omega⟩, rfl, rfl⟩
theorem wSpawn_no {pr : Nat → Prop} {Sa : Nat → Addr} {c : WC} {w0 : World} (hL : LaidP pr Sa w0) (h6 : pr 6) (hD : DeAt w0) {fx : Nat → Prop} {w : World} {S : SM} {t : Nat} {B : BdM} (h : WdAt c w0 fx w S t B) (ht : t ≤ 10000) (hnx : B.nx ≤ 1000000)
  {P : List Part} {a : Option Addr} {cp : Nat} (hs : SlIs w a P.length 6 (P.flatMap Part.cells)) (hfa : ∀ k f, a = some ⟨k, f, none⟩ → fx k) (hn : P.length ≤ 64) (hf : ∀ q ∈ P, FitsP c.L q) (hnt : NoTwice P) (hso : SortP P) (hno : ¬ (viewS S B).length < S.gens.length) :
  Meets Tryz.prog 31 #[.pointer (some ⟨c.bw, 0, none⟩), .slice a P.length cp] w fun v w' => (∃ e, v = .tuple #[.int .i64 0, e] ∧ ErrX Sa 6 w.heap.size e w') ∧ Out c w0 fx w S t B none w' := by
 have hs0 := h.A.same0
 have hh := h.here
 have hbwlt := lt_of_blk h.here
 have hwf := h.wf
 have hA := h.A
 obtain ⟨o, p, U, C, hb, hU, hfx⟩ := hA
 refine f31_ok ?_
 unfold f31
 rw [keq_ptr_nil ptWor]
 refine kB_at ?_
 refine kIf_F rfl ?_
 unfold f31_0
 refine kN_at ?_
 refine kfld_of ?_
 refine kld_of (v := .pointer (some ⟨c.bs, 0, none⟩)) hh rfl ?_
 have hfull := h.link.full.2 hno
 have hsf := spawn_full (hL.same hs0) h6 C.sp hfull (c := cp) hs (by omega) (by rw [h.cs]; exact hf) hnt
 rw [ptrV] at hsf
 refine kcall_of hsf ?_
 rintro v w9 ⟨x, rfl, hE, h9⟩
 refine kext_at rfl ?_
 refine kext_at rfl ?_
 refine knew_of fun w13 h13 hs13 hb13 => ?_
 refine kst_of (vs := [.int .i64 0, .int .i64 0]) hb13 rfl rfl rfl (by simp) (by simp) fun w14 h14 hs14 hb14 => ?_
 have m14 : Same w9 w14 := h13.trans' (h14.mono fun k _ e => .inr (by omega))
 have hE14 := hE.same m14
 obtain ⟨ty, y, rfl⟩ := hE14.if
 rw [keq_if_nil' ifErr]
 refine kB_at ?_
 refine kIf_T rfl ?_
 refine kcall_of (wWrong hE14 (h9.trans m14).size) ?_
 rintro v w18 ⟨hE18, h18⟩
 exact ⟨⟨_, rfl, hE18⟩, Out.none h ((h9.trans m14).trans h18)⟩
theorem wSpawn_ok {pr : Nat → Prop} {Sa : Nat → Addr} {c : WC} {w0 : World} (hL : LaidP pr Sa w0) (h6 : pr 6) (hD : DeAt w0) {fx : Nat → Prop} {w : World} {S : SM} {t : Nat} {B : BdM} (h : WdAt c w0 fx w S t B) (ht : t ≤ 10000) (hnx : B.nx ≤ 1000000)
  {P : List Part} {a : Option Addr} {cp : Nat} (hs : SlIs w a P.length 6 (P.flatMap Part.cells)) (hfa : ∀ k f, a = some ⟨k, f, none⟩ → fx k) (hn : P.length ≤ 64) (hf : ∀ q ∈ P, FitsP c.L q) (hnt : NoTwice P) (hso : SortP P) (hlt : (viewS S B).length < S.gens.length) :
  Meets Tryz.prog 31 #[.pointer (some ⟨c.bw, 0, none⟩), .slice a P.length cp] w fun v w' => v = .tuple #[natV B.nx, .nilIface] ∧ Out c w0 fx w S t B (some (viewS S B ++ [(B.nx, P)], B.nx + 1)) w' := by
 have hs0 := h.A.same0
 have hh := h.here
 have hbwlt := lt_of_blk h.here
 have hwf := h.wf
 have hA := h.A
 obtain ⟨o, p, U, C, hb, hU, hfx⟩ := hA
 refine f31_ok ?_
 unfold f31
 rw [keq_ptr_nil ptWor]
 refine kB_at ?_
 refine kIf_F rfl ?_
 unfold f31_0
 refine kN_at ?_
 refine kfld_of ?_
 refine kld_of (v := .pointer (some ⟨c.bs, 0, none⟩)) hh rfl ?_
 have hfull : S.free ≠ [] := fun e => h.link.full.1 e hlt
 have hsp := spawn_at (L := P) (c := cp) (hD.same C.same) C.sp (C.lo _ hD.lt) C.gs ht hfull hs (fun k f e => (hfx k (hfa k f e)).2.2) (by omega) (by rw [h.cs]; exact hf) hnt
 rw [ptrV] at hsp
 refine kcall_of hsp ?_
 rintro v w9 ⟨i, g0, L1, S1, hi1, hg1, rfl, hp1, hs1', hG1, B1, T1⟩
 have eL : L1 = P := (sorted_unique hp1.symm hso hs1' hnt).symm
 subst eL
 obtain ⟨hA9, hm9⟩ := WAt.turned C hb hU hfx T1 hG1
 obtain ⟨ek, hei, heg⟩ := ek_of C.gs ht hg1 (g := g0 + 1) (by have := (C.gs.gen i _ hg1).1; omega) (by omega)
 have hids : B.ids ek = none := BdM.ids_none.2 fun x hx e => by
  obtain ⟨j, h1, h2⟩ := h.link.live x hx
  rw [e, hei] at h1
  have : i = j := by omega
  subst this
  rw [hg1] at h2
  cases h2
 have hBl : B.l.length < 64 := by
  have := C.gs.g64
  rw [viewS_len] at hlt
  omega
 refine kext_at rfl ?_
 refine kext_at rfl ?_
 have hz9 := hm9.size
 refine knew_of fun w13 h13 hs13 hb13 => ?_
 refine kst_of (vs := [.int .i64 i, .int .i64 (g0 + 1)]) hb13 rfl rfl rfl (by simp) (by simp) fun w14 h14 hs14 hb14 => ?_
 have hb14 : blk w14 w9.heap.size = some (.cells #[.int .i64 i, .int .i64 (g0 + 1)] 37) := hb14
 have m14 : Same w9 w14 := h13.trans' (h14.mono fun k _ e => .inr (by omega))
 rw [keq_nil_nil' ifErr]
 refine kB_at ?_
 refine kIf_F rfl ?_
 unfold f31_1
 have hA14 := hA9.loc m14
 have hm14 : Mod (fun k => w0.heap.size ≤ k ∧ ¬ fx k) w w14 := hm9.trans (Mod.of_same m14)
 have hh14 := hm14.get hh (fun hk => hk.2 h.fw)
 obtain ⟨o4, p4, U4, C4, hb4, hU4, hfx4⟩ := hA14
 refine kN_at ?_
 refine kfld_of ?_
 refine kld_of (v := .pointer (some ⟨c.bb, 0, none⟩)) hh14 rfl ?_
 refine kcall_of (bdNext hb4) ?_
 rintro v w22 ⟨rfl, rfl⟩
 have md : Same w22 w22.drew := (Mod.refl (fun _ => False) _).drew
 refine kN_at ?_
 refine kfld_of ?_
 refine kld_of (v := .pointer (some ⟨c.bb, 0, none⟩)) (md.get hh14 (fun h => h)) rfl ?_
 refine kG_of rfl ?_
 refine kldN_at (cs := [.int .i64 i, .int .i64 (g0 + 1)]) (md.get hb14 (fun h => h)) rfl (by omega) ?_
 refine kG_of rfl ?_
 have hgv := bdGive (hb4.same md) ek hids hBl (by omega)
 have hev : ek.v = .agg #[.int .i64 i, .int .i64 (g0 + 1)] := by unfold EK.v entV; rw [hei, heg]
 rw [hev] at hgv
 refine kcall_of hgv ?_
 rintro v w27 ⟨rfl, hB27, hm27⟩
 have C4d := C4.loc md
 obtain ⟨hA27, hm27'⟩ := WAt.badged C4d (fun k hk => hU4 k hk) (fun k hk => ⟨(hfx4 k hk).1, Nat.lt_of_lt_of_le (hfx4 k hk).2.1 md.size, (hfx4 k hk).2.2⟩) hB27 hm27
 refine kext_at rfl ?_
 refine kext_at rfl ?_
 rw [keq_nil_nil' ifErr]
 refine kB_at ?_
 refine kIf_F rfl ?_
 unfold f31_2
 have hm27w : Mod (fun k => w0.heap.size ≤ k ∧ ¬ fx k) w w27 := (hm14.trans (Mod.of_same md)).trans hm27'
 have hh27 := hm27w.get hh (fun hk => hk.2 h.fw)
 refine kbld_of (cs := [.int .i64 7, .int .i64 0, .int .i64 0, .int .i64 0, .int .i64 0, .int .i64 0, .int .i64 0, .int .i64 0, .slice none 0 0, .int .i64 0, natV B.nx]) rfl ?_
 refine kcall_of (wNote hh27 _) ?_
 rintro v w41 ⟨rfl, h41⟩
 refine kbld_of (cs := [.int .i64 2, natV B.nx, .int .i64 0, .int .i64 0, .int .i64 0, .int .i64 0, .int .i64 0, .int .i64 0, .slice none 0 0, .int .i64 0, .int .i64 0]) rfl ?_
 refine kcall_of (wNote (h41.get hh27 (fun h => h)) _) ?_
 rintro v w44 ⟨rfl, h44⟩
 have m44 := h41.trans h44
 have hfr := hfull
 refine ⟨rfl, S1, _, (h.step hA27 hm27w (h.link.born hfr B1 hg1 hei heg) B1.cs).loc m44, by rw [B1.gens, List.length_set], hm27w.trans (Mod.of_same m44), view_born h.link B1 hg1 hei, rfl⟩
end
section
attribute [local irreducible] kO kB kStr kInt kN kG kIf kfld kld kldN kst knew kmap kbld kbldS kext kcnv klenStr klen kcap kprt kprtN kbool kint kstr keq kun ksl kix kiv kta kmk kmm ksem ksemU kextf kcallV kcallM kcall kL
theorem EK.v_of {e : EK} {i : Nat} (h : e.i = (i : Int)) : e.v = .agg #[.int .i64 i, .int .i64 e.g] := by unfold EK.v entV; rw [h]
theorem wBury_no {pr : Nat → Prop} {Sa : Nat → Addr} {c : WC} {w0 : World} (hL : LaidP pr Sa w0) (h17 : pr 17) {fx : Nat → Prop} {w : World} {S : SM} {t : Nat} {B : BdM} (h : WdAt c w0 fx w S t B) {x : Int} (hf : B.l.find? (fun z => decide (((z.1 : Nat) : Int) = x)) = none) :
  Meets Tryz.prog 155 #[.pointer (some ⟨c.bw, 0, none⟩), .int .i64 x] w fun v w' => (∃ e, v = .tuple #[.slice none 0 0, e] ∧ ErrX Sa 17 w.heap.size e w') ∧ Same w w' := by
 refine f155_ok ?_
 unfold f155
 refine kcall_of (wEntity_no hL h17 h hf) ?_
 rintro v w2 ⟨⟨e, rfl, hE⟩, h2⟩
 refine kext_at rfl ?_
 refine kext_at rfl ?_
 refine knew_of fun w6 h6 hs6 hb6 => ?_
 refine kst_of (vs := [.int .i64 0, .int .i64 0]) hb6 rfl rfl rfl (by simp) (by simp) fun w7 h7 hs7 hb7 => ?_
 have m7 : Same w2 w7 := h6.trans' (h7.mono fun k _ e => .inr (by omega))
 have hE7 := hE.same m7
 obtain ⟨ty, y, rfl⟩ := hE7.if
 rw [keq_if_nil' ifErr]
 refine kB_at ?_
 refine kIf_T rfl ?_
 exact ⟨⟨_, rfl, hE7⟩, h2.trans m7⟩
theorem wBury_ok {c : WC} {w0 : World} {fx : Nat → Prop} {w : World} {S : SM} {t : Nat} {B : BdM} (h : WdAt c w0 fx w S t B) {x : Int} {y : Nat × EK} (hf : B.l.find? (fun z => decide (((z.1 : Nat) : Int) = x)) = some y) :
  Meets Tryz.prog 155 #[.pointer (some ⟨c.bw, 0, none⟩), .int .i64 x] w fun v w' => (∃ a n c', v = .tuple #[.slice a n c', .nilIface]) ∧ Out c w0 fx w S t B (some (delV (viewS S B) y.1, B.nx)) w' := by
 have hym := List.mem_of_find?_eq_some hf
 have hyx : ((y.1 : Nat) : Int) = x := by have := List.find?_some hf; simpa using this
 have hwf := h.wf
 obtain ⟨i, hyi, hg⟩ := h.link.live y hym
 have hyv := EK.v_of hyi
 refine f155_ok ?_
 unfold f155
 refine kcall_of (wEntity_ok h hf) ?_
 rintro v w2 ⟨rfl, h2⟩
 rw [hyv]
 refine kext_at rfl ?_
 refine kext_at rfl ?_
 refine knew_of fun w6 h6 hs6 hb6 => ?_
 refine kst_of (vs := [.int .i64 i, .int .i64 y.2.g]) hb6 rfl rfl rfl (by simp) (by simp) fun w7 h7 hs7 hb7 => ?_
 have hb7 : blk w7 w2.heap.size = some (.cells #[.int .i64 i, .int .i64 y.2.g] 37) := hb7
 have m7 : Same w2 w7 := h6.trans' (h7.mono fun k _ e => .inr (by omega))
 rw [keq_nil_nil' ifErr]
 refine kB_at ?_
 refine kIf_F rfl ?_
 unfold f155_0
 have md : Same w7 w7.drew := (Mod.refl (fun _ => False) _).drew
 have mw : Same w w7.drew := (h2.trans m7).trans md
 have hd := h.loc mw
 have hbd := md.get hb7 (fun h => h)
 generalize w7.drew = wd at *
 refine kN_at ?_
 refine kfld_of ?_
 refine kld_of (v := .pointer (some ⟨c.bs, 0, none⟩)) hd.here rfl ?_
 refine kG_of rfl ?_
 refine kldN_at (cs := [.int .i64 i, .int .i64 y.2.g]) hbd rfl (by omega) ?_
 refine kG_of rfl ?_
 obtain ⟨o, p, U, C, hb, hU, hfx⟩ := hd.A
 have hds := despawn_at C.sp C.gs hg (C.gs.fr.lt hg)
 rw [ptrV] at hds
 refine kcall_of hds ?_
 rintro v w14 ⟨sv, rfl, hOs, hvs, S1, hG1, e1, e2, e3, e4, e5, e6, T1⟩
 obtain ⟨hA14, hm14⟩ := WAt.turned C hb hU hfx T1.t hG1
 have hmw14 : Mod (fun k => w0.heap.size ≤ k ∧ ¬ fx k) w w14 := (Mod.of_same mw).trans hm14
 have hh14 := hm14.get hd.here (fun hk => hk.2 h.fw)
 obtain ⟨sa, sn, sc, rfl, _, _⟩ := hOs.is
 refine kext_at rfl ?_
 refine kext_at rfl ?_
 rw [keq_nil_nil' ifErr]
 refine kB_at ?_
 refine kIf_F rfl ?_
 unfold f155_1
 refine kN_at ?_
 refine kfld_of ?_
 refine kld_of (v := .pointer (some ⟨c.bb, 0, none⟩)) hh14 rfl ?_
 obtain ⟨o4, p4, U4, C4, hb4, hU4, hfx4⟩ := hA14
 rw [← hyx]
 refine kcall_of (bdDrop hb4 hym) ?_
 rintro v w24 ⟨rfl, hB24, hm24⟩
 obtain ⟨hA24, hm24'⟩ := WAt.badged C4 hU4 hfx4 hB24 hm24
 have hmw24 := hmw14.trans hm24'
 refine kext_at rfl ?_
 refine kext_at rfl ?_
 refine knew_of fun w28 h28 hs28 hb28 => ?_
 refine kst_of (vs := [.int .i64 y.2.i, .int .i64 y.2.g]) hb28 rfl rfl rfl (by simp) (by simp) fun w29 h29 hs29 hb29 => ?_
 have m29 : Same w24 w29 := h28.trans' (h29.mono fun k _ e => .inr (by omega))
 rw [keq_nil_nil' ifErr]
 refine kB_at ?_
 refine kIf_F rfl ?_
 unfold f155_2
 refine ⟨⟨_, _, _, rfl⟩, S1, delB B y.1, ((h.step hA24 hmw24 (h.link.gone hwf hym hyi e1 e2 ?_) e3).loc m29).more (Nat.le_succ t), by rw [e1, List.length_set], hmw24.trans (Mod.of_same m29), view_gone h.link hwf hym hyi e6, rfl⟩
 rw [e5, e4]; exact h.link.tm
theorem wDespawn_no {pr : Nat → Prop} {Sa : Nat → Addr} {c : WC} {w0 : World} (hL : LaidP pr Sa w0) (h17 : pr 17) {fx : Nat → Prop} {w : World} {S : SM} {t : Nat} {B : BdM} (h : WdAt c w0 fx w S t B) {x : Int} (hf : B.l.find? (fun z => decide (((z.1 : Nat) : Int) = x)) = none) :
  Meets Tryz.prog 128 #[.pointer (some ⟨c.bw, 0, none⟩), .int .i64 x] w fun v w' => ErrX Sa 17 w.heap.size v w' ∧ Same w w' := by
 refine f128_ok ?_
 unfold f128
 refine kcall_of (wBury_no hL h17 h hf) ?_
 rintro v w2 ⟨⟨e, rfl, hE⟩, h2⟩
 refine kext_at rfl ?_
 refine kext_at rfl ?_
 obtain ⟨ty, y, rfl⟩ := hE.if
 rw [keq_if_nil' ifErr]
 refine kB_at ?_
 refine kIf_T rfl ?_
 exact ⟨hE, h2⟩
theorem wDespawn_ok {c : WC} {w0 : World} {fx : Nat → Prop} {w : World} {S : SM} {t : Nat} {B : BdM} (h : WdAt c w0 fx w S t B) {x : Int} {y : Nat × EK} (hf : B.l.find? (fun z => decide (((z.1 : Nat) : Int) = x)) = some y) :
  Meets Tryz.prog 128 #[.pointer (some ⟨c.bw, 0, none⟩), .int .i64 x] w fun v w' => v = .nilIface ∧ Out c w0 fx w S t B (some (delV (viewS S B) y.1, B.nx)) w' := by
 refine f128_ok ?_
 unfold f128
 refine kcall_of (wBury_ok h hf) ?_
 rintro v w2 ⟨⟨sa, sn, sc, rfl⟩, S', B', hW, hg, hm, hv, hn⟩
 refine kext_at rfl ?_
 refine kext_at rfl ?_
 rw [keq_nil_nil' ifErr]
 refine kB_at ?_
 refine kIf_F rfl ?_
 unfold f128_0
 refine kbld_of (cs := [.int .i64 3, .int .i64 x, .int .i64 0, .int .i64 0, .int .i64 0, .int .i64 0, .int .i64 0, .int .i64 0, .slice sa sn sc, .int .i64 0, .int .i64 0]) rfl ?_
 refine kcall_of (wNote hW.here _) ?_
 rintro v w9 ⟨rfl, h9⟩
 exact ⟨rfl, S', B', hW.loc h9, hg, hm.trans (Mod.of_same h9), hv, hn⟩
end
section
attribute [local irreducible] kO kB kStr kInt kN kG kIf kfld kld kldN kst knew kmap kbld kbldS kext kcnv klenStr klen kcap kprt kprtN kbool kint kstr keq kun ksl kix kiv kta kmk kmm ksem ksemU kextf kcallV kcallM kcall kL
theorem Out.back {c : WC} {w0 : World} {fx fx' : Nat → Prop} {w w8 w' : World} {S : SM} {t : Nat} {B : BdM} {res : Option (List (Nat × List Part) × Nat)} (h : Out c w0 fx' w8 S t B res w') (hs : ∀ k, fx k → fx' k) (m : Same w w8) (h1 : ∀ k, c.mine k → fx k) : Out c w0 fx w S t B res w' := by
 obtain ⟨S', B', hW, hg, hm, hv, hn⟩ := h
 exact ⟨S', B', hW.less hs h1, hg, (Mod.of_same m).trans (hm.mono fun k _ hk => ⟨hk.1, fun hx => hk.2 (hs k hx)⟩), hv, hn⟩
theorem WdAt.ext {c : WC} {w0 : World} {fx : Nat → Prop} {w w' : World} {S : SM} {t : Nat} {B : BdM} (h : WdAt c w0 fx w S t B) (m : Same w w') : WdAt c w0 (fun k => fx k ∨ (w.heap.size ≤ k ∧ k < w'.heap.size)) w' S t B :=
 h.other m fun k hk => hk.elim
theorem wInsert_dead {pr : Nat → Prop} {Sa : Nat → Addr} {c : WC} {w0 : World} (hL : LaidP pr Sa w0) (h17 : pr 17) {fx : Nat → Prop} {w : World} {S : SM} {t : Nat} {B : BdM} (h : WdAt c w0 fx w S t B) {x comp : Int} (hf : B.l.find? (fun z => decide (((z.1 : Nat) : Int) = x)) = none) :
  Meets Tryz.prog 129 #[.pointer (some ⟨c.bw, 0, none⟩), .int .i64 x, .int .i64 comp] w fun v w' => ErrX Sa 17 w.heap.size v w' ∧ Same w w' := by
 refine f129_ok ?_
 unfold f129
 refine kcall_of (wEntity_no hL h17 h hf) ?_
 rintro v w2 ⟨⟨e, rfl, hE⟩, h2⟩
 refine kext_at rfl ?_
 refine kext_at rfl ?_
 refine knew_of fun w6 h6 hs6 hb6 => ?_
 refine kst_of (vs := [.int .i64 0, .int .i64 0]) hb6 rfl rfl rfl (by simp) (by simp) fun w7 h7 hs7 hb7 => ?_
 have m7 : Same w2 w7 := h6.trans' (h7.mono fun k _ e => .inr (by omega))
 have hE7 := hE.same m7
 obtain ⟨ty, y, rfl⟩ := hE7.if
 rw [keq_if_nil' ifErr]
 refine kB_at ?_
 refine kIf_T rfl ?_
 exact ⟨hE7, h2.trans m7⟩
theorem wInsert_tail {c : WC} {w0 : World} (hD : DeAt w0) {fx : Nat → Prop} {w : World} {S : SM} {t : Nat} {B : BdM} (h : WdAt c w0 fx w S t B) (ht : t ≤ 10000) {i : Nat} {g : Int} (hg : S.gens[i]? = some (g, true)) {q : Part} (hq : FitsP c.L q) (hno : ∀ x ∈ partsOf S i, x.comp ≠ q.comp) {y : Nat × EK} (hy : y ∈ B.l) (hyi : y.2.i = (i : Int)) (x comp : Int) (hcm : I64 comp)
  {be bp : Nat} (hbe : blk w be = some (.cells #[.int .i64 i, .int .i64 g] 37)) (hbp : blk w bp = some (.cells q.cells.toArray 47)) {Q : Value → World → Prop} (hQ : ∀ w', Out c w0 fx w S t B (some (setV (viewS S B) y.1 (insP q (partsOf S i)), B.nx)) w' → Q .nilIface w') :
  f129_1 (.pointer (some ⟨c.bw, 0, none⟩)) (.int .i64 x) (.int .i64 comp) (.pointer (some ⟨be, 0, none⟩)) .nilIface (.pointer (some ⟨bp, 0, none⟩)) Q w := by
 have hwf := h.wf
 unfold f129_1
 rw [keq_nil_nil' ifErr]
 refine kB_at ?_
 refine kIf_F rfl ?_
 unfold f129_2
 have md : Same w w.drew := (Mod.refl (fun _ => False) _).drew
 have hd := h.loc md
 have hbe := md.get hbe (fun h => h)
 have hbp := md.get hbp (fun h => h)
 generalize w.drew = wd at *
 refine kN_at ?_
 refine kfld_of ?_
 refine kld_of (v := .pointer (some ⟨c.bs, 0, none⟩)) hd.here rfl ?_
 refine kG_of rfl ?_
 refine kldN_at (cs := [.int .i64 i, .int .i64 g]) hbe rfl (by omega) ?_
 refine kG_of rfl ?_
 refine kldN_at (cs := q.cells) hbp rfl (by omega) ?_
 refine kG_of rfl ?_
 obtain ⟨o, p, U, C, hb, hU, hfx⟩ := hd.A
 have hin := insert_at (hD.same C.same) C.sp (C.lo _ hD.lt) C.gs ht hg (by rw [h.cs]; exact hq) hno
 rw [ptrV] at hin
 refine kcall_of hin ?_
 rintro v w30 ⟨rfl, S1, hG1, hW1, T1⟩
 obtain ⟨hA30, hm30⟩ := WAt.turned C hb hU hfx T1 hG1
 have hmw : Mod (fun k => w0.heap.size ≤ k ∧ ¬ fx k) w w30 := (Mod.of_same md).trans hm30
 rw [keq_nil_nil' ifErr]
 refine kB_at ?_
 refine kIf_F rfl ?_
 unfold f129_3
 have h30 := h.step hA30 hmw (h.link.went hW1) hW1.cs
 refine kbld_of (cs := (⟨comp, 0, 0, 0, 0, 0⟩ : Part).cells) rfl ?_
 refine kcall_of (wNoteOf h30.here h30.rl 4 x ⟨comp, 0, 0, 0, 0, 0⟩ hcm) ?_
 rintro v w37 ⟨rfl, h37⟩
 exact hQ _ ⟨S1, B, h30.loc h37, by rw [hW1.gens], hmw.trans (Mod.of_same h37), view_went h.link hwf hW1 hy hyi, rfl⟩
theorem wInsert_twice_tail {pr : Nat → Prop} {Sa : Nat → Addr} {c : WC} {w0 : World} (hL : LaidP pr Sa w0) (h9 : pr 9) {fx : Nat → Prop} {w : World} {S : SM} {t : Nat} {B : BdM} (h : WdAt c w0 fx w S t B) {i : Nat} {g : Int} (hg : S.gens[i]? = some (g, true)) {q : Part} (hq : FitsP c.L q) {z : Part} (hz : z ∈ partsOf S i) (hzq : z.comp = q.comp) (x comp : Int)
  {be bp : Nat} (hbe : blk w be = some (.cells #[.int .i64 i, .int .i64 g] 37)) (hbp : blk w bp = some (.cells q.cells.toArray 47)) {Q : Value → World → Prop} (hQ : ∀ v w', ErrX Sa 9 w.heap.size v w' → Same w w' → Q v w') :
  f129_1 (.pointer (some ⟨c.bw, 0, none⟩)) (.int .i64 x) (.int .i64 comp) (.pointer (some ⟨be, 0, none⟩)) .nilIface (.pointer (some ⟨bp, 0, none⟩)) Q w := by
 unfold f129_1
 rw [keq_nil_nil' ifErr]
 refine kB_at ?_
 refine kIf_F rfl ?_
 unfold f129_2
 have md : Same w w.drew := (Mod.refl (fun _ => False) _).drew
 have hd := h.loc md
 have hbe := md.get hbe (fun h => h)
 have hbp := md.get hbp (fun h => h)
 generalize w.drew = wd at *
 refine kN_at ?_
 refine kfld_of ?_
 refine kld_of (v := .pointer (some ⟨c.bs, 0, none⟩)) hd.here rfl ?_
 refine kG_of rfl ?_
 refine kldN_at (cs := [.int .i64 i, .int .i64 g]) hbe rfl (by omega) ?_
 refine kG_of rfl ?_
 refine kldN_at (cs := q.cells) hbp rfl (by omega) ?_
 refine kG_of rfl ?_
 obtain ⟨o, p, U, C, hb, hU, hfx⟩ := hd.A
 have hin := insert_twice (hL.same C.same) h9 C.sp C.gs hg (by rw [h.cs]; exact hq) hz hzq
 rw [ptrV] at hin
 refine kcall_of hin ?_
 rintro v w30 ⟨hE, h30⟩
 obtain ⟨ty, z', rfl⟩ := hE.if
 rw [keq_if_nil' ifErr]
 refine kB_at ?_
 refine kIf_T rfl ?_
 refine kcall_of (wWrong hE h30.size) ?_
 rintro v w34 ⟨hE34, h34⟩
 exact hQ _ _ (hE34.mono md.size) (md.trans (h30.trans h34))
theorem wInsert_head {c : WC} {w0 : World} {fx : Nat → Prop} {w : World} {S : SM} {t : Nat} {B : BdM} (h : WdAt c w0 fx w S t B) {x : Int} {n : Nat} (hn : n < c.L.length) {y : Nat × EK} (hf : B.l.find? (fun z => decide (((z.1 : Nat) : Int) = x)) = some y) {Q : Value → World → Prop}
  (hQ : ∀ w' be bp, Same w w' → blk w' be = some (.cells #[.int .i64 y.2.i, .int .i64 y.2.g] 37) → blk w' bp = some (.cells (defP c.L n c.frame).cells.toArray 47) → f129_1 (.pointer (some ⟨c.bw, 0, none⟩)) (.int .i64 x) (.int .i64 n) (.pointer (some ⟨be, 0, none⟩)) .nilIface (.pointer (some ⟨bp, 0, none⟩)) Q w') :
  Meets Tryz.prog 129 #[.pointer (some ⟨c.bw, 0, none⟩), .int .i64 x, .int .i64 n] w Q := by
 have hl := h.good.len
 refine f129_ok ?_
 unfold f129
 refine kcall_of (wEntity_ok h hf) ?_
 rintro v w2 ⟨rfl, h2⟩
 unfold EK.v entV
 refine kext_at rfl ?_
 refine kext_at rfl ?_
 refine knew_of fun w6 h6 hs6 hb6 => ?_
 refine kst_of (vs := [.int .i64 y.2.i, .int .i64 y.2.g]) hb6 rfl rfl rfl (by simp) (by simp) fun w7 h7 hs7 hb7 => ?_
 have hb7 : blk w7 w2.heap.size = some (.cells #[.int .i64 y.2.i, .int .i64 y.2.g] 37) := hb7
 have m7 : Same w2 w7 := h6.trans' (h7.mono fun k _ e => .inr (by omega))
 rw [keq_nil_nil' ifErr]
 refine kB_at ?_
 refine kIf_F rfl ?_
 unfold f129_0
 have md : Same w7 w7.drew := (Mod.refl (fun _ => False) _).drew
 have mw : Same w w7.drew := (h2.trans m7).trans md
 have hd := h.loc mw
 have hbd := md.get hb7 (fun h => h)
 generalize w7.drew = wd at *
 have key : ∀ {w1 : World}, Same wd w1 → blk w1 c.bw = some (.cells c.cells 150) := fun m => m.get hd.here (fun h => h)
 refine ⟨?_, ?_⟩
 ·refine kN_at ?_
  refine kfld_of ?_
  refine kldN_at (cs := [.slice c.ca c.L.length c.cc, c.rv]) hd.here rfl (by omega) ?_
  refine kG_of rfl ?_
  refine kN_at ?_
  refine kfld_of ?_
  refine kld_of (v := .int .i64 c.frame) hd.here rfl ?_
  refine kG_of rfl ?_
  have hsn := schemaNew_spec (cp := c.cc) h.rvc hd.comps hn (by omega) c.frame
  rw [scV] at hsn
  refine kcall_of hsn ?_
  rintro v w15 ⟨rfl, h15⟩
  refine knew_of fun w17 h17 hs17 hb17 => ?_
  refine kG_of (kld_of (v := .int .i64 c.frame) (key (h15.trans h17)) rfl ⟨rfl, rfl⟩) ?_
  refine kG_of (kldN_at (cs := [.slice c.ca c.L.length c.cc, c.rv]) (key (h15.trans h17)) rfl (by omega) ⟨rfl, rfl⟩) ?_
  refine kext_at rfl ?_
  refine kst_of (vs := (defP c.L n c.frame).cells) hb17 rfl rfl rfl (by simp) (by simp [Part.cells]) fun w19 h19 hs19 hb19 => ?_
  have hb19 : blk w19 w15.heap.size = some (.cells (defP c.L n c.frame).cells.toArray 47) := hb19
  refine kext_at rfl ?_
  have m19 : Same w15 w19 := h17.trans' (h19.mono fun k _ e => .inr (by omega))
  exact hQ _ _ _ (mw.trans (h15.trans m19)) ((h15.trans m19).get hbd (fun h => h)) hb19
 ·refine knew_of fun w43 h43 hs43 hb43 => ?_
  refine kN_at ?_
  refine kfld_of ?_
  refine kldN_at (cs := [.slice c.ca c.L.length c.cc, c.rv]) (key h43) rfl (by omega) ?_
  refine kG_of rfl ?_
  refine kG_of (kldN_at (cs := [.slice c.ca c.L.length c.cc, c.rv]) hd.here rfl (by omega) ⟨rfl, rfl⟩) ?_
  refine kN_at ?_
  refine kfld_of ?_
  refine kld_of (v := .int .i64 c.frame) (key h43) rfl ?_
  refine kG_of rfl ?_
  refine kG_of (kld_of (v := .int .i64 c.frame) hd.here rfl ⟨rfl, rfl⟩) ?_
  have hsn := schemaNew_spec (cp := c.cc) h.rvc (hd.comps.same h43) hn (by omega) c.frame
  rw [scV] at hsn
  refine kcall_of hsn ?_
  rintro v w49 ⟨rfl, h49⟩
  refine kext_at rfl ?_
  refine kst_of (vs := (defP c.L n c.frame).cells) (h49.get hb43 (fun h => h)) rfl rfl rfl (by simp) (by simp [Part.cells]) fun w51 h51 hs51 hb51 => ?_
  have hb51 : blk w51 wd.heap.size = some (.cells (defP c.L n c.frame).cells.toArray 47) := hb51
  refine kext_at rfl ?_
  have hz43 := h43.size
  have m51 : Same wd w51 := (h43.trans h49).trans' (h51.mono fun k _ e => .inr (by omega))
  exact hQ _ _ _ (mw.trans m51) (m51.get hbd (fun h => h)) hb51
theorem wInsert_ok {c : WC} {w0 : World} (hD : DeAt w0) {fx : Nat → Prop} {w : World} {S : SM} {t : Nat} {B : BdM} (h : WdAt c w0 fx w S t B) (ht : t ≤ 10000) {x : Int} {n : Nat} (hn : n < c.L.length) {y : Nat × EK} (hf : B.l.find? (fun z => decide (((z.1 : Nat) : Int) = x)) = some y) (hno : ∀ q ∈ partsOf S y.2.i.toNat, q.comp ≠ (n : Int)) :
  Meets Tryz.prog 129 #[.pointer (some ⟨c.bw, 0, none⟩), .int .i64 x, .int .i64 n] w fun v w' => v = .nilIface ∧ Out c w0 fx w S t B (some (setV (viewS S B) y.1 (insP (defP c.L n c.frame) (partsOf S y.2.i.toNat)), B.nx)) w' := by
 have hl := h.good.len
 have hym := List.mem_of_find?_eq_some hf
 obtain ⟨i, hyi, hg⟩ := h.link.live y hym
 refine wInsert_head h hn hf fun w' be bp m hbe hbp => ?_
 rw [hyi] at hbe hno ⊢
 rw [Int.toNat_natCast] at hno ⊢
 exact wInsert_tail hD (h.loc m) ht hg (defP_fits h.good hn c.frame) (fun q hq => by rw [defP_comp]; exact hno q hq) hym hyi x n (by unfold I64; omega) hbe hbp fun w'' hO => ⟨rfl, hO.back (fun k hk => hk) m h.fm⟩
theorem wInsert_twice {pr : Nat → Prop} {Sa : Nat → Addr} {c : WC} {w0 : World} (hL : LaidP pr Sa w0) (h9 : pr 9) {fx : Nat → Prop} {w : World} {S : SM} {t : Nat} {B : BdM} (h : WdAt c w0 fx w S t B) {x : Int} {n : Nat} (hn : n < c.L.length) {y : Nat × EK} (hf : B.l.find? (fun z => decide (((z.1 : Nat) : Int) = x)) = some y) {z : Part} (hz : z ∈ partsOf S y.2.i.toNat) (hzn : z.comp = (n : Int)) :
  Meets Tryz.prog 129 #[.pointer (some ⟨c.bw, 0, none⟩), .int .i64 x, .int .i64 n] w fun v w' => ErrX Sa 9 w.heap.size v w' ∧ Same w w' := by
 have hym := List.mem_of_find?_eq_some hf
 obtain ⟨i, hyi, hg⟩ := h.link.live y hym
 refine wInsert_head h hn hf fun w' be bp m hbe hbp => ?_
 rw [hyi] at hbe hz
 rw [Int.toNat_natCast] at hz
 exact wInsert_twice_tail hL h9 (h.loc m) hg (defP_fits h.good hn c.frame) hz (by rw [defP_comp]; exact hzn) x n hbe hbp fun v w'' hE m2 => ⟨hE.mono m.size, m.trans m2⟩
theorem wRemove_dead {pr : Nat → Prop} {Sa : Nat → Addr} {c : WC} {w0 : World} (hL : LaidP pr Sa w0) (h17 : pr 17) {fx : Nat → Prop} {w : World} {S : SM} {t : Nat} {B : BdM} (h : WdAt c w0 fx w S t B) {x comp : Int} (hf : B.l.find? (fun z => decide (((z.1 : Nat) : Int) = x)) = none) :
  Meets Tryz.prog 130 #[.pointer (some ⟨c.bw, 0, none⟩), .int .i64 x, .int .i64 comp] w fun v w' => ErrX Sa 17 w.heap.size v w' ∧ Same w w' := by
 refine f130_ok ?_
 unfold f130
 refine kcall_of (wEntity_no hL h17 h hf) ?_
 rintro v w2 ⟨⟨e, rfl, hE⟩, h2⟩
 refine kext_at rfl ?_
 refine kext_at rfl ?_
 refine knew_of fun w6 h6 hs6 hb6 => ?_
 refine kst_of (vs := [.int .i64 0, .int .i64 0]) hb6 rfl rfl rfl (by simp) (by simp) fun w7 h7 hs7 hb7 => ?_
 have m7 : Same w2 w7 := h6.trans' (h7.mono fun k _ e => .inr (by omega))
 have hE7 := hE.same m7
 obtain ⟨ty, y, rfl⟩ := hE7.if
 rw [keq_if_nil' ifErr]
 refine kB_at ?_
 refine kIf_T rfl ?_
 exact ⟨hE7, h2.trans m7⟩
theorem Out.then {c : WC} {w0 : World} {fx fx1 : Nat → Prop} {w w1 w2 w' : World} {S : SM} {t : Nat} {B : BdM} {res : Option (List (Nat × List Part) × Nat)} (h : WdAt c w0 fx w S t B) (hO : Out c w0 fx1 w1 S t B res w2) (hs : ∀ k, fx k → fx1 k) (m : Same w w1) (m2 : Mod (fun k => w.heap.size ≤ k ∧ fx1 k) w2 w') : Out c w0 fx w S t B res w' := by
 obtain ⟨S', B', hW, hg, hm, hv, hn⟩ := hO
 have hz := h.A.same0.size
 have hlt := fun k hk => (h.A.lt (k := k) hk).2
 refine ⟨S', B', (hW.other m2 fun k hk => ⟨hk.2, fun e => ?_⟩).less (fun k hk => .inl (hs k hk)) h.fm, hg, ?_, hv, hn⟩
 ·have := hlt _ (h.fm k e); omega
 ·exact ((Mod.of_same m).trans (hm.mono fun k _ hk => ⟨hk.1, fun hx => hk.2 (hs k hx)⟩)).trans' (m2.mono fun k _ e => .inr e.1)
theorem wRemove_head {c : WC} {w0 : World} {fx : Nat → Prop} {w : World} {S : SM} {t : Nat} {B : BdM} (h : WdAt c w0 fx w S t B) {x comp : Int} {y : Nat × EK} (hf : B.l.find? (fun z => decide (((z.1 : Nat) : Int) = x)) = some y) {P : Part} {Q : Value → World → Prop} {R : (Nat → Prop) → World → Value → World → Prop}
  (hR : ∀ w1 fx1, WdAt c w0 fx1 w1 S t B → Meets Tryz.prog 14 #[.pointer (some ⟨c.bs, 0, none⟩), entV y.2.i y.2.g, .int .i64 comp] w1 fun v w' => ∃ e, v = .tuple #[.agg P.cells.toArray, e] ∧ R fx1 w1 e w' ∧ Mod (fun k => w0.heap.size ≤ k ∧ ¬ fx1 k) w1 w')
  (hQ : ∀ w1 fx1 w2 w' e bp, Same w w1 → (∀ k, fx k → fx1 k) → WdAt c w0 fx1 w1 S t B → R fx1 w1 e w2 → Mod (fun k => w.heap.size ≤ k ∧ fx1 k) w2 w' → blk w' bp = some (.cells P.cells.toArray 47) → f130_1 (.pointer (some ⟨c.bw, 0, none⟩)) (.int .i64 x) e (.pointer (some ⟨bp, 0, none⟩)) Q w') :
  Meets Tryz.prog 130 #[.pointer (some ⟨c.bw, 0, none⟩), .int .i64 x, .int .i64 comp] w Q := by
 have hlt := lt_of_blk h.here
 refine f130_ok ?_
 unfold f130
 refine kcall_of (wEntity_ok h hf) ?_
 rintro v w2 ⟨rfl, h2⟩
 unfold EK.v entV
 refine kext_at rfl ?_
 refine kext_at rfl ?_
 refine knew_of fun w6 h6 hs6 hb6 => ?_
 refine kst_of (vs := [.int .i64 y.2.i, .int .i64 y.2.g]) hb6 rfl rfl rfl (by simp) (by simp) fun w7 h7 hs7 hb7 => ?_
 have hb7 : blk w7 w2.heap.size = some (.cells #[.int .i64 y.2.i, .int .i64 y.2.g] 37) := hb7
 have m7 : Same w2 w7 := h6.trans' (h7.mono fun k _ e => .inr (by omega))
 rw [keq_nil_nil' ifErr]
 refine kB_at ?_
 refine kIf_F rfl ?_
 unfold f130_0
 have md : Same w7 w7.drew := (Mod.refl (fun _ => False) _).drew
 have mw : Same w w7.drew := (h2.trans m7).trans md
 have hd := h.ext mw
 have hz2 := h2.size
 have hbl := lt_of_blk (md.get hb7 (fun h => h))
 have hbd := md.get hb7 (fun h => h)
 generalize w7.drew = wd at *
 refine ⟨?_, ?_⟩
 ·refine kN_at ?_
  refine kfld_of ?_
  refine kld_of (v := .pointer (some ⟨c.bs, 0, none⟩)) hd.here rfl ?_
  refine kG_of rfl ?_
  refine kldN_at (cs := [.int .i64 y.2.i, .int .i64 y.2.g]) hbd rfl (by omega) ?_
  refine kG_of rfl ?_
  refine kcall_of (hR _ _ hd) ?_
  rintro v w14 ⟨e, rfl, hRe, m14⟩
  refine knew_of fun w16 h16 hs16 hb16 => ?_
  have hh16 := h16.get (m14.get hd.here (fun hk => hk.2 hd.fw)) (fun h => h)
  have hb216 := h16.get (m14.get hbd (fun hk => hk.2 (.inr ⟨by omega, hbl⟩))) (fun h => h)
  refine kG_of (kldN_at (cs := [.int .i64 y.2.i, .int .i64 y.2.g]) hb216 rfl (by omega) ⟨rfl, rfl⟩) ?_
  refine kG_of (kld_of (v := .pointer (some ⟨c.bs, 0, none⟩)) hh16 rfl ⟨rfl, rfl⟩) ?_
  refine kext_at rfl ?_
  refine kst_of (vs := P.cells) hb16 rfl rfl rfl (by simp) (by simp [Part.cells]) fun w18 h18 hs18 hb18 => ?_
  have hb18 : blk w18 w14.heap.size = some (.cells P.cells.toArray 47) := hb18
  refine kext_at rfl ?_
  have m18 : Same w14 w18 := h16.trans' (h18.mono fun k _ e => .inr (by omega))
  exact hQ _ _ _ _ _ _ mw (fun k hk => .inl hk) hd hRe (Mod.of_same m18) hb18
 ·refine knew_of fun w31 h31 hs31 hb31 => ?_
  have hd31 := h.ext (mw.trans h31)
  have hzw := mw.size
  refine kN_at ?_
  refine kfld_of ?_
  refine kld_of (v := .pointer (some ⟨c.bs, 0, none⟩)) hd31.here rfl ?_
  refine kG_of rfl ?_
  refine kG_of (kld_of (v := .pointer (some ⟨c.bs, 0, none⟩)) hd.here rfl ⟨rfl, rfl⟩) ?_
  refine kldN_at (cs := [.int .i64 y.2.i, .int .i64 y.2.g]) (h31.get hbd (fun h => h)) rfl (by omega) ?_
  refine kG_of rfl ?_
  refine kG_of (kldN_at (cs := [.int .i64 y.2.i, .int .i64 y.2.g]) hbd rfl (by omega) ⟨rfl, rfl⟩) ?_
  refine kcall_of (hR _ _ hd31) ?_
  rintro v w36 ⟨e, rfl, hRe, m36⟩
  refine kext_at rfl ?_
  refine kst_of (vs := P.cells) (m36.get hb31 (fun hk => hk.2 (.inr ⟨by omega, by omega⟩))) rfl rfl rfl (by simp) (by simp [Part.cells]) fun w38 h38 hs38 hb38 => ?_
  have hb38 : blk w38 wd.heap.size = some (.cells P.cells.toArray 47) := hb38
  refine kext_at rfl ?_
  exact hQ _ _ _ _ _ _ (mw.trans h31) (fun k hk => .inl hk) hd31 hRe (h38.mono fun k _ e => ⟨by omega, .inr ⟨by omega, by omega⟩⟩) hb38
theorem wRemove_none {pr : Nat → Prop} {Sa : Nat → Addr} {c : WC} {w0 : World} (hL : LaidP pr Sa w0) (h7 : pr 7) {fx : Nat → Prop} {w : World} {S : SM} {t : Nat} {B : BdM} (h : WdAt c w0 fx w S t B) {x comp : Int} {y : Nat × EK} (hf : B.l.find? (fun z => decide (((z.1 : Nat) : Int) = x)) = some y) (hno : ∀ q ∈ partsOf S y.2.i.toNat, q.comp ≠ comp) :
  Meets Tryz.prog 130 #[.pointer (some ⟨c.bw, 0, none⟩), .int .i64 x, .int .i64 comp] w fun v w' => ErrX Sa 7 w.heap.size v w' ∧ Same w w' := by
 have hym := List.mem_of_find?_eq_some hf
 obtain ⟨i, hyi, hg⟩ := h.link.live y hym
 rw [hyi, Int.toNat_natCast] at hno
 refine wRemove_head (P := ⟨0, 0, 0, 0, 0, 0⟩) (R := fun fx1 w1 e w2 => ErrX Sa 7 w1.heap.size e w2 ∧ Same w1 w2) h hf (fun w1 fx1 h1 => ?_) fun w1 fx1 w2 w' e bp m hs h1 hR m2 hbp => ?_
 ·obtain ⟨o, p, U, C, hb, hU, hfx⟩ := h1.A
  obtain ⟨n, r, hsp, hn, hc⟩ := none_at C.sp C.gs hg hno
  have hrm := sRemove_err (c := comp) fun w2 m2 => sColumn_none (hL.same (C.same.trans m2)) h7 (C.sp.same m2) hg hsp hn hc
  rw [ptrV] at hrm
  rw [hyi]
  refine hrm.mono ?_
  rintro v w' ⟨e, rfl, hE, m2⟩
  exact ⟨e, rfl, ⟨hE, m2⟩, Mod.of_same m2⟩
 ·obtain ⟨hE, m12⟩ := hR
  have hz := m.size
  have hE' : ErrX Sa 7 w1.heap.size e w' := hE.mod m2 fun b hlo _ hk => by have := (h1.A.lt hk.2).2; omega
  have mw' : Same w w' := (m.trans m12).trans' (m2.mono fun k _ e => .inr e.1)
  obtain ⟨ty, z, rfl⟩ := hE'.if
  unfold f130_1
  rw [keq_if_nil' ifErr]
  refine kB_at ?_
  refine kIf_T rfl ?_
  refine kcall_of (wWrong hE' (by have := mw'.size; have := m2.size; have := m12.size; omega)) ?_
  rintro v w23 ⟨hE23, h23⟩
  exact ⟨hE23.mono hz, mw'.trans h23⟩
theorem wRemove_ok {c : WC} {w0 : World} (hD : DeAt w0) {fx : Nat → Prop} {w : World} {S : SM} {t : Nat} {B : BdM} (h : WdAt c w0 fx w S t B) (ht : t ≤ 10000) {x : Int} {n : Nat} (hn : n < 4294967296) {y : Nat × EK} (hf : B.l.find? (fun z => decide (((z.1 : Nat) : Int) = x)) = some y) {q : Part} (hq : q ∈ partsOf S y.2.i.toNat) (hqc : q.comp = (n : Int)) :
  Meets Tryz.prog 130 #[.pointer (some ⟨c.bw, 0, none⟩), .int .i64 x, .int .i64 n] w fun v w' => v = .nilIface ∧ Out c w0 fx w S t B (some (setV (viewS S B) y.1 ((partsOf S y.2.i.toNat).filter fun z => decide (z.comp ≠ (n : Int))), B.nx)) w' := by
 have hym := List.mem_of_find?_eq_some hf
 have hwf := h.wf
 obtain ⟨i, hyi, hg⟩ := h.link.live y hym
 rw [hyi, Int.toNat_natCast] at hq ⊢
 refine wRemove_head (P := q) (R := fun fx1 w1 e w2 => e = .nilIface ∧ Out c w0 fx1 w1 S t B (some (setV (viewS S B) y.1 ((partsOf S i).filter fun z => decide (z.comp ≠ (n : Int))), B.nx)) w2) h hf (fun w1 fx1 h1 => ?_) fun w1 fx1 w2 w' e bp m hs h1 hR m2 hbp => ?_
 ·obtain ⟨o, p, U, C, hb, hU, hfx⟩ := h1.A
  have hrm := remove_at (hD.same C.same) C.sp (C.lo _ hD.lt) C.gs ht hg hq hqc
  rw [ptrV] at hrm
  rw [hyi]
  refine hrm.mono ?_
  rintro v w' ⟨rfl, S1, hG1, hW1, T1⟩
  obtain ⟨hA1, hm1⟩ := WAt.turned C hb hU hfx T1 hG1
  exact ⟨_, rfl, ⟨rfl, S1, B, h1.step hA1 hm1 (h.link.went hW1) hW1.cs, by rw [hW1.gens], hm1, view_went h.link hwf hW1 hym hyi, rfl⟩, hm1⟩
 ·obtain ⟨rfl, hO⟩ := hR
  have hO' := hO.then h hs m m2
  obtain ⟨S', B', hW, hg', hm, hv, hnx⟩ := hO'
  unfold f130_1
  rw [keq_nil_nil' ifErr]
  refine kB_at ?_
  refine kIf_F rfl ?_
  unfold f130_2
  refine kldN_at (cs := q.cells) hbp rfl (by omega) ?_
  refine kcall_of (wNoteOf hW.here hW.rl 5 x q (by rw [hqc]; unfold I64; omega)) ?_
  rintro v w26 ⟨rfl, h26⟩
  exact ⟨rfl, S', B', hW.loc h26, hg', hm.trans (Mod.of_same h26), hv, hnx⟩
theorem wFrame {c : WC} {w : World} (h : blk w c.bw = some (.cells c.cells 150)) : Meets Tryz.prog 127 #[.pointer (some ⟨c.bw, 0, none⟩)] w fun v w' => v = .int .i64 c.frame ∧ w' = w := by
 refine f127_ok ?_
 unfold f127
 rw [keq_ptr_nil ptWor]
 refine kB_at ?_
 refine kIf_F rfl ?_
 unfold f127_0
 refine kN_at ?_
 refine kfld_of ?_
 refine kld_of (v := .int .i64 c.frame) h rfl ?_
 exact ⟨rfl, rfl⟩
end
section
structure OC where
 bo : Nat
 ca : Option Addr
 cc : Nat
 rv : Value
 L : List Comp
 most : Nat
def OC.cells (o : OC) (sv : Value) (gv dr : Nat) : Array Value := #[.slice o.ca o.L.length o.cc, o.rv, natV o.most, sv, natV gv, natV dr]
def OrdM.ok (x : OrdM) : Prop := I64 x.kind ∧ I64 x.id ∧ x.mask < 4294967296 ∧ I64 x.comp
structure OAt (o : OC) (U : Nat → Prop) (w : World) (l : List OrdM) (gv dr : Nat) : Prop where
 ex : ∃ sv, blk w o.bo = some (.cells (o.cells sv gv dr) 152) ∧ Own w sv 4 (l.flatMap OrdM.cells) ∧ ∀ k, vblk sv k → U k ∧ k ≠ o.bo ∧ ∀ f, o.ca ≠ some ⟨k, f, none⟩
 comps : SlIs w o.ca o.L.length 7 (o.L.flatMap Comp.cells)
 own : U o.bo
 ca : ∀ k f, o.ca = some ⟨k, f, none⟩ → U k ∧ k ≠ o.bo
 good : GoodSc o.L
 rvc : o.rv.cells = #[o.rv]
 fit : ∀ x ∈ l, x.fit o.L.length ∧ x.ok
theorem OAt.mod {o : OC} {U fp : Nat → Prop} {w w' : World} {l : List OrdM} {gv dr : Nat} (h : OAt o U w l gv dr) (m : Mod fp w w') (hf : ∀ k, U k → ¬ fp k) : OAt o U w' l gv dr := by
 obtain ⟨⟨sv, h1, h2, h3⟩, h4, h5, h6, h7, h8, h9⟩ := h
 exact ⟨⟨sv, m.get h1 (hf _ h5), h2.mod m (fun k hk => hf k (h3 k hk).1), h3⟩, h4.mod m (fun k f e => hf k (h6 k f e).1), h5, h6, h7, h8, h9⟩
theorem OAt.same {o : OC} {U : Nat → Prop} {w w' : World} {l : List OrdM} {gv dr : Nat} (h : OAt o U w l gv dr) (m : Same w w') : OAt o U w' l gv dr := h.mod m fun _ _ h => h
theorem sl_lt {w : World} {a : Option Addr} {n sz : Nat} {vs : List Value} (h : SlIs w a n sz vs) (hn : 0 < n) (hs : 0 < sz) : ∀ k f, a = some ⟨k, f, none⟩ → k < w.heap.size := by
 intro k f e
 obtain ⟨b, o, c, t, z, e2, hb, _⟩ := h.at hn hs
 rw [e] at e2
 cases e2
 exact lt_of_blk hb
theorem OAt.cut {o : OC} {U : Nat → Prop} {w : World} {l : List OrdM} {gv dr : Nat} (h : OAt o U w l gv dr) (h0 : 0 < o.L.length) : OAt o (fun k => U k ∧ k < w.heap.size) w l gv dr := by
 obtain ⟨⟨sv, h1, h2, h3⟩, h4, h5, h6, h7, h8, h9⟩ := h
 exact ⟨⟨sv, h1, h2, fun k hk => ⟨⟨(h3 k hk).1, h2.vblk_lt hk⟩, (h3 k hk).2⟩⟩, h4, ⟨h5, lt_of_blk h1⟩, fun k f e => ⟨⟨(h6 k f e).1, sl_lt h4 h0 (by omega) k f e⟩, (h6 k f e).2⟩, h7, h8, h9⟩
structure Pair (c : WC) (w0 : World) (o : OC) (X : Nat → Prop) (w : World) (S : SM) (t : Nat) (B : BdM) (l : List OrdM) (gv dr : Nat) : Prop where
 ex : ∃ fx U, WdAt c w0 fx w S t B ∧ OAt o U w l gv dr ∧ (∀ k, U k → fx k ∧ ¬ X k ∧ ¬ c.mine k) ∧ ∀ k, X k → fx k
 pos : 0 < o.L.length
theorem Pair.order {c : WC} {w0 : World} {o : OC} {X fx U : Nat → Prop} {w w' : World} {S : SM} {t : Nat} {B : BdM} {l' : List OrdM} {gv' dr' : Nat} (h0 : 0 < o.L.length) (hW : WdAt c w0 fx w S t B) (hU : ∀ k, U k → fx k ∧ ¬ X k ∧ ¬ c.mine k) (hX : ∀ k, X k → fx k)
  (hO : OAt o (fun k => U k ∨ w.heap.size ≤ k) w' l' gv' dr') (m : Mod U w w') : Pair c w0 o X w' S t B l' gv' dr' ∧ Mod (fun k => w0.heap.size ≤ k ∧ ¬ X k) w w' := by
 refine ⟨⟨⟨_, _, hW.other m (fun k hk => ⟨(hU k hk).1, (hU k hk).2.2⟩), hO.cut h0, fun k hk => ?_, fun k hk => .inl (hX k hk)⟩, h0⟩, m.mono fun k _ hk => ⟨(hW.A.lt (hU k hk).1).1, (hU k hk).2.1⟩⟩
 obtain ⟨hk, hlt⟩ := hk
 rcases hk with hk | hk
 ·exact ⟨.inl (hU k hk).1, (hU k hk).2⟩
 ·refine ⟨.inr ⟨hk, hlt⟩, fun hx => ?_, fun e => ?_⟩
  ·have := (hW.A.lt (hX k hx)).2; omega
  ·have := (hW.A.lt (hW.fm k e)).2; omega
theorem Pair.act {c : WC} {w0 : World} {o : OC} {X fx U : Nat → Prop} {w w' : World} {S' : SM} {t' : Nat} {B' : BdM} {l : List OrdM} {gv dr : Nat} (h0 : 0 < o.L.length) (hO : OAt o U w l gv dr) (hU : ∀ k, U k → fx k ∧ ¬ X k ∧ ¬ c.mine k) (hX : ∀ k, X k → fx k)
  (hW' : WdAt c w0 fx w' S' t' B') (m : Mod (fun k => w0.heap.size ≤ k ∧ ¬ fx k) w w') : Pair c w0 o X w' S' t' B' l gv dr ∧ Mod (fun k => w0.heap.size ≤ k ∧ ¬ X k) w w' :=
 ⟨⟨⟨fx, U, hW', hO.mod m (fun k hk hn => hn.2 (hU k hk).1), hU, hX⟩, h0⟩, m.mono fun k _ hk => ⟨hk.1, fun hx => hk.2 (hX k hx)⟩⟩
theorem Pair.grow {c : WC} {w0 : World} {o : OC} {X : Nat → Prop} {w w' : World} {S : SM} {t : Nat} {B : BdM} {l : List OrdM} {gv dr : Nat} (h : Pair c w0 o X w S t B l gv dr) {fp : Nat → Prop} (m : Mod fp w w') (hp : ∀ k, fp k → X k ∧ ¬ c.mine k) : Pair c w0 o (fun k => X k ∨ (w.heap.size ≤ k ∧ k < w'.heap.size)) w' S t B l gv dr := by
 obtain ⟨⟨fx, U, hW, hO, hU, hX⟩, h0⟩ := h
 refine ⟨⟨_, U, hW.other m (fun k hk => ⟨hX k (hp k hk).1, (hp k hk).2⟩), hO.mod m (fun k hk hf => (hU k hk).2.1 (hp k hf).1), fun k hk => ⟨.inl (hU k hk).1, fun hx => ?_, (hU k hk).2.2⟩, fun k hk => ?_⟩, h0⟩
 ·rcases hx with hx | hx
  ·exact (hU k hk).2.1 hx
  ·have := (hW.A.lt (hU k hk).1).2; omega
 ·rcases hk with hk | hk
  ·exact .inl (hX k hk)
  ·exact .inr hk
theorem Pair.loc {c : WC} {w0 : World} {o : OC} {X : Nat → Prop} {w w' : World} {S : SM} {t : Nat} {B : BdM} {l : List OrdM} {gv dr : Nat} (h : Pair c w0 o X w S t B l gv dr) (m : Same w w') : Pair c w0 o X w' S t B l gv dr := by
 obtain ⟨⟨fx, U, hW, hO, hU, hX⟩, h0⟩ := h
 exact ⟨⟨fx, U, hW.loc m, hO.same m, hU, hX⟩, h0⟩
theorem Pair.less {c : WC} {w0 : World} {o : OC} {X X' : Nat → Prop} {w : World} {S : SM} {t : Nat} {B : BdM} {l : List OrdM} {gv dr : Nat} (h : Pair c w0 o X w S t B l gv dr) (hs : ∀ k, X' k → X k) : Pair c w0 o X' w S t B l gv dr := by
 obtain ⟨⟨fx, U, hW, hO, hU, hX⟩, h0⟩ := h
 exact ⟨⟨fx, U, hW, hO, fun k hk => ⟨(hU k hk).1, fun hx => (hU k hk).2.1 (hs k hx), (hU k hk).2.2⟩, fun k hk => hX k (hs k hk)⟩, h0⟩
theorem Pair.lt {c : WC} {w0 : World} {o : OC} {X : Nat → Prop} {w : World} {S : SM} {t : Nat} {B : BdM} {l : List OrdM} {gv dr : Nat} (h : Pair c w0 o X w S t B l gv dr) {k : Nat} (hk : X k) : w0.heap.size ≤ k ∧ k < w.heap.size := by
 obtain ⟨⟨fx, U, hW, hO, hU, hX⟩, h0⟩ := h
 exact hW.A.lt (hX k hk)
theorem Pair.same0 {c : WC} {w0 : World} {o : OC} {X : Nat → Prop} {w : World} {S : SM} {t : Nat} {B : BdM} {l : List OrdM} {gv dr : Nat} (h : Pair c w0 o X w S t B l gv dr) : Same w0 w := by
 obtain ⟨⟨fx, U, hW, hO, hU, hX⟩, h0⟩ := h
 exact hW.A.same0
end
section
abbrev ViewT : Type := List (Nat × List Part)
def stepR (L : List Comp) (cap : Nat) (frame : Int) (s : (ViewT × Nat) × Nat × Nat) (x : OrdM) : (ViewT × Nat) × Nat × Nat :=
 match stepV L cap frame s.1.1 s.1.2 x with
 | some r => (r, s.2.1 + 1, s.2.2)
 | none => (s.1, s.2.1, s.2.2 + 1)
def flushF (L : List Comp) (cap : Nat) (frame : Int) (l : List OrdM) (s : (ViewT × Nat) × Nat × Nat) : (ViewT × Nat) × Nat × Nat := l.foldl (stepR L cap frame) s
theorem stepV_nx {L : List Comp} {cap : Nat} {frame : Int} {V : ViewT} {nx : Nat} {x : OrdM} {r : ViewT × Nat} (h : stepV L cap frame V nx x = some r) : nx ≤ r.2 ∧ r.2 ≤ nx + 1 := by
 unfold stepV at h
 split at h
 ·split at h
  ·cases h; exact ⟨Nat.le_succ _, Nat.le_refl _⟩
  ·cases h
 ·split at h
  ·cases h
  ·split at h
   ·cases h; exact ⟨Nat.le_refl _, Nat.le_succ _⟩
   ·split at h
    ·split at h
     ·cases h
     ·cases h; exact ⟨Nat.le_refl _, Nat.le_succ _⟩
    ·split at h
     ·cases h; exact ⟨Nat.le_refl _, Nat.le_succ _⟩
     ·cases h
theorem stepR_nx (L : List Comp) (cap : Nat) (frame : Int) (s : (ViewT × Nat) × Nat × Nat) (x : OrdM) : s.1.2 ≤ (stepR L cap frame s x).1.2 ∧ (stepR L cap frame s x).1.2 ≤ s.1.2 + 1 := by
 unfold stepR
 split
 ·rename_i r h
  exact stepV_nx h
 ·exact ⟨Nat.le_refl _, Nat.le_succ _⟩
theorem flushF_take {L : List Comp} {cap : Nat} {frame : Int} {l : List OrdM} {s : (ViewT × Nat) × Nat × Nat} {j : Nat} (hj : j < l.length) : flushF L cap frame (l.take (j + 1)) s = stepR L cap frame (flushF L cap frame (l.take j) s) l[j] := by
 unfold flushF
 rw [List.take_succ_eq_append_getElem hj, List.foldl_append]
 rfl
theorem flushF_all {L : List Comp} {cap : Nat} {frame : Int} {l : List OrdM} {s : (ViewT × Nat) × Nat × Nat} : flushF L cap frame (l.take l.length) s = flushF L cap frame l s := by rw [List.take_length]
end
section
attribute [local irreducible] kO kB kStr kInt kN kG kIf kfld kld kldN kst knew kmap kbld kbldS kext kcnv klenStr klen kcap kprt kprtN kbool kint kstr keq kun ksl kix kiv kta kmk kmm ksem ksemU kextf kcallV kcallM kcall kL
instance (n : Nat) (x : OrdM) : Decidable (x.fit n) := by unfold OrdM.fit; infer_instance
def OrdM.val (x : OrdM) : Value := .agg x.cells.toArray
theorem ptOrd : isPtrT Tryz.prog 65 = true := by kernel_rfl
theorem apOrd : appT Tryz.prog 79 4 32 = true := by kernel_rfl
theorem slOrd : isSlT Tryz.prog 79 = true := by kernel_rfl
theorem slOrd_is : ∃ e, Tryz.prog.underlying 79 = some (.slice e) := slT_of (by kernel_rfl)
theorem ones_ord : ∀ l : List OrdM, oneCells (l.flatMap OrdM.cells) = true
 | [] => rfl
 | q :: l => by
  rw [List.flatMap_cons]
  show oneCells (.int .i64 q.kind :: .int .i64 q.id :: msk q.mask :: .int .i64 q.comp :: l.flatMap OrdM.cells) = true
  simp only [oneCells, msk, ones_ord l]; rfl
theorem oWrong {Sa : Nat → Addr} {k lo : Nat} {x : Value} {w : World} (h : ErrX Sa k lo x w) (hlo : lo ≤ w.heap.size) : Meets Tryz.prog 76 #[x] w fun v w' => ErrX Sa k lo v w' ∧ Same w w' := by
 refine f76_ok ?_
 unfold f76
 refine kcall_of (atX_spec _ h hlo) ?_
 rintro v w' ⟨h1, h2⟩
 exact ⟨h1, h2⟩
theorem oIs_spec {o : OC} {w : World} {sv : Value} {gv dr : Nat} (h : blk w o.bo = some (.cells (o.cells sv gv dr) 152)) (hn : o.L.length ≤ 32) (x : OrdM) (hx : x.ok) :
  Meets Tryz.prog 77 #[.pointer (some ⟨o.bo, 0, none⟩), x.val] w fun v w' => v = .bool (decide (x.fit o.L.length)) ∧ Same w w' := by
 obtain ⟨h1, h2', h3, h4⟩ := hx
 have hfit : x.fit o.L.length ↔ (x.kind = 1 ∧ x.mask < 2 ^ o.L.length) ∨ x.kind = 2 ∨ ((x.kind = 3 ∨ x.kind = 4) ∧ 0 ≤ x.comp ∧ x.comp < o.L.length) := Iff.rfl
 unfold OrdM.val
 refine f77_ok ?_
 unfold f77
 refine knew_of fun w2 h2 hs2 hb2 => ?_
 have hb2 : blk w2 w.heap.size = some (.cells x.cells.toArray 69) := hb2
 have hh := h2.get h (fun h => h)
 refine kN_at ?_
 refine kfld_of ?_
 refine kfld_of ?_
 refine kld_of (v := .slice o.ca o.L.length o.cc) hh rfl ?_
 refine klen_at ?_
 refine kfld_of ?_
 refine kld_of (v := .int .i64 x.kind) hb2 rfl ?_
 refine eql_at ?_
 refine kB_at ?_
 have rest : ∀ b : Bool, b = decide (x.kind = 3 ∨ x.kind = 4) → x.kind ≠ 1 → x.kind ≠ 2 → f77_0 (.pointer (some ⟨w.heap.size, 0, none⟩)) (.int .i64 o.L.length) (.bool b) (fun v w' => v = .bool (decide (x.fit o.L.length)) ∧ Same w w') w2 := by
  intro b hb n1 n2
  unfold f77_0
  refine kB_at ?_
  refine kIf_of (fun e => ?_) (fun e => ?_)
  ·have h34 : x.kind = 3 ∨ x.kind = 4 := of_decide_eq_true (hb.symm.trans e)
   refine kfld_of ?_
   refine kld_of (v := .int .i64 x.comp) hb2 rfl ?_
   refine geq_at ?_
   refine kB_at ?_
   refine kIf_dec (fun hc => ?_) (fun hc => ?_)
   ·refine kfld_of ?_
    refine kld_of (v := .int .i64 x.comp) hb2 rfl ?_
    refine lss_at ?_
    refine ⟨?_, h2⟩
    congr 1
    rw [decide_eq_decide, hfit]
    omega
   ·refine ⟨?_, h2⟩
    congr 1
    symm
    rw [decide_eq_false_iff_not, hfit]
    omega
  ·have h34 : ¬ (x.kind = 3 ∨ x.kind = 4) := of_decide_eq_false (hb.symm.trans e)
   unfold f77_1
   refine ⟨?_, h2⟩
   congr 1
   symm
   rw [decide_eq_false_iff_not, hfit]
   omega
 refine kIf_dec (fun e1 => ?_) (fun e1 => ?_)
 ·refine kfld_of ?_
  refine kld_of (v := msk x.mask) hb2 rfl ?_
  rw [msk, kint_shr]
  refine kG_of (by omega) ?_
  rw [shr_nat x.mask o.L.length (by show o.L.length ≤ 32; omega)]
  refine eql_at ?_
  refine ⟨?_, h2⟩
  congr 1
  rw [decide_eq_decide, hfit]
  have hp : 0 < 2 ^ o.L.length := Nat.pow_pos (by omega)
  constructor
  ·intro e
   have e : x.mask / 2 ^ o.L.length = 0 := by omega
   exact .inl ⟨e1, by rcases (Nat.div_eq_zero_iff).1 e with h | h; omega; exact h⟩
  ·intro e
   have : x.mask < 2 ^ o.L.length := by
    rcases e with e | e | e
    ·exact e.2
    ·omega
    ·omega
   rw [Nat.div_eq_of_lt this]; rfl
 ·refine eql_at ?_
  refine kB_at ?_
  refine kIf_dec (fun e2 => ?_) (fun e2 => ?_)
  ·refine ⟨?_, h2⟩
   congr 1
   symm
   rw [decide_eq_true_eq, hfit]
   omega
  ·refine eql_at ?_
   refine kB_at ?_
   refine kIf_dec (fun e3 => ?_) (fun e3 => ?_)
   ·rw [decT e3]
    exact rest true (by rw [decT (Or.inl e3)]) e1 e2
   ·refine eql_at ?_
    refine rest _ ?_ e1 e2
    rw [decide_eq_decide]
    omega
theorem oAdd_bad {pr : Nat → Prop} {Sa : Nat → Addr} {o : OC} {U : Nat → Prop} {w : World} {l : List OrdM} {gv dr : Nat} (hL : LaidP pr Sa w) (h1 : pr 1) (h : OAt o U w l gv dr) (x : OrdM) (hx : x.ok) (hb : ¬ x.fit o.L.length) :
  Meets Tryz.prog 24 #[.pointer (some ⟨o.bo, 0, none⟩), x.val] w fun v w' => ErrX Sa 1 w.heap.size v w' ∧ Same w w' := by
 have hl := h.good.len
 obtain ⟨sv, hh, hO, hv⟩ := h.ex
 unfold OrdM.val
 refine f24_ok ?_
 unfold f24
 refine knew_of fun w2 h2 hs2 hb2 => ?_
 have hb2 : blk w2 w.heap.size = some (.cells x.cells.toArray 69) := hb2
 have hh2 := h2.get hh (fun h => h)
 rw [keq_ptr_nil ptOrd]
 refine kB_at ?_
 refine kIf_F rfl ?_
 refine kldN_at (cs := x.cells) hb2 rfl (by omega) ?_
 have his := oIs_spec hh2 (by omega) x hx
 rw [OrdM.val] at his
 refine kcall_of his ?_
 rintro v w10 ⟨rfl, h10⟩
 refine not_at ?_
 rw [decF hb]
 refine kB_at ?_
 refine kIf_T rfl ?_
 refine kld_err (hL.same (h2.trans h10)) h1 rfl rfl ?_
 have hz := (h2.trans h10).size
 refine kcall_of (oWrong (ErrX.sent Sa 1 w.heap.size w10) hz) ?_
 rintro v w14 ⟨hE, h14⟩
 exact ⟨hE, (h2.trans h10).trans h14⟩
theorem oAdd_full {pr : Nat → Prop} {Sa : Nat → Addr} {o : OC} {U : Nat → Prop} {w0 w : World} {l : List OrdM} {gv dr : Nat} (hL : LaidP pr Sa w0) (h6 : pr 6) (hs0 : Same w0 w) (hlo : ∀ k, U k → w0.heap.size ≤ k) (h : OAt o U w l gv dr) (x : OrdM) (hx : x.ok) (hb : x.fit o.L.length) (hf : o.most ≤ gv) (hdr : dr ≤ 1000000) :
  Meets Tryz.prog 24 #[.pointer (some ⟨o.bo, 0, none⟩), x.val] w fun v w' => ErrX Sa 6 w.heap.size v w' ∧ OAt o U w' l gv (dr + 1) ∧ Mod U w w' := by
 have hl := h.good.len
 obtain ⟨⟨sv, hh, hO, hv⟩, hcm, hown, hca, hgood, hrv, hfit⟩ := h
 have hbl := lt_of_blk hh
 unfold OrdM.val
 refine f24_ok ?_
 unfold f24
 refine knew_of fun w2 h2 hs2 hb2 => ?_
 have hb2 : blk w2 w.heap.size = some (.cells x.cells.toArray 69) := hb2
 have hh2 := h2.get hh (fun h => h)
 rw [keq_ptr_nil ptOrd]
 refine kB_at ?_
 refine kIf_F rfl ?_
 refine kldN_at (cs := x.cells) hb2 rfl (by omega) ?_
 have his := oIs_spec hh2 (by omega) x hx
 rw [OrdM.val] at his
 refine kcall_of his ?_
 rintro v w10 ⟨rfl, h10⟩
 refine not_at ?_
 rw [decT hb]
 refine kB_at ?_
 refine kIf_F rfl ?_
 have md : Same w10 w10.drew := (Mod.refl (fun _ => False) _).drew
 have mw : Same w w10.drew := (h2.trans h10).trans md
 have hhd := mw.get hh (fun h => h)
 have hz := mw.size
 generalize w10.drew = wd at *
 refine kN_at ?_
 refine kfld_of ?_
 refine kld_of (v := natV gv) hhd rfl ?_
 refine kG_of rfl ?_
 refine kN_at ?_
 refine kfld_of ?_
 refine kld_of (v := natV o.most) hhd rfl ?_
 refine kG_of rfl ?_
 refine geq_at ?_
 rw [decT (by omega)]
 refine kB_at ?_
 refine kIf_T rfl ?_
 refine kN_at ?_
 refine kfld_of ?_
 refine kld_of (v := natV dr) hhd rfl ?_
 refine add_at (by omega) (by omega) ?_
 refine kN_at ?_
 refine kfld_of ?_
 refine kst1_of hhd rfl rfl (by show 5 < 6; omega) fun w24 h24 hs24 hb24 => ?_
 have hb24 : blk w24 o.bo = some (.cells (o.cells sv gv (dr + 1)) 152) := hb24
 have m24 : Mod (fun k => k = o.bo) w w24 := (Mod.of_same mw).trans h24
 have hbo := hlo _ hown
 have s024 : Same w0 w24 := hs0.trans' (m24.mono fun k _ e => .inr (by omega))
 refine kld_err (hL.same s024) h6 rfl rfl ?_
 refine kcall_of (oWrong (ErrX.sent Sa 6 w.heap.size w24) m24.size) ?_
 rintro v w27 ⟨hE, h27⟩
 have m27 : Mod (fun k => k = o.bo) w w27 := m24.trans (Mod.of_same h27)
 exact ⟨hE, ⟨⟨sv, h27.get hb24 (fun h => h), hO.mod m27 (fun k hk e => (hv k hk).2.1 e), hv⟩, hcm.mod m27 (fun k f e hk => (hca k f e).2 hk), hown, hca, hgood, hrv, hfit⟩, m27.mono fun k _ e => by rw [e]; exact hown⟩
theorem oAdd_ok {o : OC} {U : Nat → Prop} {w : World} {l : List OrdM} {gv dr : Nat} (h : OAt o U w l gv dr) (x : OrdM) (hx : x.ok) (hb : x.fit o.L.length) (hf : gv < o.most) (hmo : o.most ≤ 1000000) (hln : l.length ≤ 1000000) (h0 : 0 < o.L.length) :
  Meets Tryz.prog 24 #[.pointer (some ⟨o.bo, 0, none⟩), x.val] w fun v w' => v = .nilIface ∧ OAt o (fun k => U k ∨ w.heap.size ≤ k) w' (l ++ [x]) (gv + 1) dr ∧ Mod U w w' := by
 have hl := h.good.len
 obtain ⟨⟨sv, hh, hO, hv⟩, hcm, hown, hca, hgood, hrv, hfit⟩ := h
 have hbl := lt_of_blk hh
 have hfl := flat_len OrdM.cells 4 (fun _ => rfl) l
 unfold OrdM.val
 refine f24_ok ?_
 unfold f24
 refine knew_of fun w2 h2 hs2 hb2 => ?_
 have hb2 : blk w2 w.heap.size = some (.cells x.cells.toArray 69) := hb2
 have hh2 := h2.get hh (fun h => h)
 rw [keq_ptr_nil ptOrd]
 refine kB_at ?_
 refine kIf_F rfl ?_
 refine kldN_at (cs := x.cells) hb2 rfl (by omega) ?_
 have his := oIs_spec hh2 (by omega) x hx
 rw [OrdM.val] at his
 refine kcall_of his ?_
 rintro v w10 ⟨rfl, h10⟩
 refine not_at ?_
 rw [decT hb]
 refine kB_at ?_
 refine kIf_F rfl ?_
 have md : Same w10 w10.drew := (Mod.refl (fun _ => False) _).drew
 have mw : Same w w10.drew := (h2.trans h10).trans md
 have hhd := mw.get hh (fun h => h)
 have hbd := (h10.trans md).get hb2 (fun h => h)
 have hz := mw.size
 generalize w10.drew = wd at *
 refine kN_at ?_
 refine kfld_of ?_
 refine kld_of (v := natV gv) hhd rfl ?_
 refine kG_of rfl ?_
 refine kN_at ?_
 refine kfld_of ?_
 refine kld_of (v := natV o.most) hhd rfl ?_
 refine kG_of rfl ?_
 refine geq_at ?_
 rw [decF (by omega)]
 refine kB_at ?_
 refine kIf_F rfl ?_
 unfold f24_0
 refine kN_at ?_
 refine kfld_of ?_
 refine kld_of (v := natV gv) hhd rfl ?_
 refine add_at (by omega) (by omega) ?_
 refine kN_at ?_
 refine kfld_of ?_
 refine kst1_of hhd rfl rfl (by show 4 < 6; omega) fun w32 h32 hs32 hb32 => ?_
 have hb32 : blk w32 o.bo = some (.cells (o.cells sv (gv + 1) dr) 152) := hb32
 have m32 : Mod (fun k => k = o.bo) w w32 := (Mod.of_same mw).trans h32
 have md2 : Same w32 w32.drew := (Mod.refl (fun _ => False) _).drew
 have m32d := m32.trans (Mod.of_same md2)
 have hhe := md2.get hb32 (fun h => h)
 have hbe := md2.get (h32.get hbd (by omega)) (fun h => h)
 have hOd : Own w32.drew sv 4 (l.flatMap OrdM.cells) := hO.mod m32d (fun k hk e => (hv k hk).2.1 e)
 have hzd := m32d.size
 generalize w32.drew = we at *
 refine kN_at ?_
 refine kfld_of ?_
 refine kld_of (v := sv) hhe rfl ?_
 refine kG_of rfl ?_
 refine kldN_at (cs := x.cells) hbe rfl (by omega) ?_
 refine kG_of rfl ?_
 refine kbldS_of (cs := x.cells) rfl fun w37 h37 hs37 hb37 => ?_
 refine kG_of (kld_of (v := sv) (h37.get hhe (fun h => h)) rfl ⟨rfl, rfl⟩) ?_
 refine ksem_append apOrd (by omega) (hOd.same h37) (Src.ofSlIs (hk := slOrd_is.choose_spec) 1 (SlIs.blk hb37 rfl) rfl) (by simp [OrdM.cells, hfl]; omega) (by simp [OrdM.cells, hfl]; omega) ?_
 intro v' w39 hO39 m39 hf39
 have hh39 := m39.get (h37.get hhe (fun h => h)) (fun hk => (hv _ hk).2.1 rfl)
 refine kN_at ?_
 refine kfld_of ?_
 obtain ⟨a', n', c', rfl, _, _⟩ := hO39.is
 refine kst1_of hh39 rfl rfl (by show 3 < 6; omega) fun w41 h41 hs41 hb41 => ?_
 have hb41 : blk w41 o.bo = some (.cells (o.cells (.slice a' n' c') (gv + 1) dr) 152) := hb41
 have m37 : Mod (fun k => k = o.bo) w w37 := m32d.trans (Mod.of_same h37)
 have hz37 := m37.size
 have hvn : ∀ k, vblk (.slice a' n' c') k → (vblk sv k ∨ w.heap.size ≤ k) := fun k hk => by
  rcases hf39 k hk with h | h
  ·exact .inl h
  ·exact .inr (by omega)
 have mall : Mod U w w41 := ((m37.mono fun k _ e => by rw [e]; exact hown).trans (m39.mono fun k _ hk => (hv k hk).1)).trans (h41.mono fun k _ e => by rw [e]; exact hown)
 have hcb : ∀ k f, o.ca = some ⟨k, f, none⟩ → ¬ (k = o.bo) ∧ ¬ vblk sv k := fun k f e => ⟨(hca k f e).2, fun hk => (hv k hk).2.2 f e⟩
 refine ⟨rfl, ⟨⟨.slice a' n' c', hb41, ?_, fun k hk => ?_⟩, ?_, .inl hown, fun k f e => ⟨.inl (hca k f e).1, (hca k f e).2⟩, hgood, hrv, fun y hy => ?_⟩, mall⟩
 ·rw [List.flatMap_append]
  have : Own w39 (.slice a' n' c') 4 (l.flatMap OrdM.cells ++ [x].flatMap OrdM.cells) := by simpa using hO39
  refine this.mod h41 fun k hk e => ?_
  rcases hvn k hk with h | h
  ·exact (hv k h).2.1 e
  ·omega
 ·rcases hvn k hk with h | h
  ·exact ⟨.inl (hv k h).1, (hv k h).2⟩
  ·refine ⟨.inr h, by omega, fun f e => ?_⟩
   have := sl_lt hcm h0 (by omega) k f e
   omega
 ·exact ((hcm.mod m37 (fun k f e => (hcb k f e).1)).mod m39 (fun k f e => (hcb k f e).2)).mod h41 (fun k f e => (hcb k f e).1)
 ·rcases List.mem_append.1 hy with hy | hy
  ·exact hfit y hy
  ·have : y = x := by simpa using hy
   subst this; exact ⟨hb, hx⟩
theorem cloneO_spec {w : World} {a : Option Addr} {n c : Nat} {l : List OrdM} (hs : SlIs w a n 4 (l.flatMap OrdM.cells)) (hl : n = l.length) (hn : l.length ≤ 1000000) :
  Meets Tryz.prog 81 #[.slice a n c] w fun v w' => (∃ a' c', v = .slice a' l.length c' ∧ SlIs w' a' l.length 4 (l.flatMap OrdM.cells)) ∧ Same w w' := by
 subst hl
 have hfl := flat_len OrdM.cells 4 (fun _ => rfl) l
 refine f81_ok ?_
 unfold f81
 rw [keq_sl_nil slOrd]
 cases a with
 | none =>
  have hL : l.length = 0 := by rcases hs.2 with h | ⟨_, _, _, _, _, h, _⟩; exact h; cases h
  have : l = [] := List.eq_nil_of_length_eq_zero hL
  subst this
  refine kB_at ?_
  refine kIf_T rfl ?_
  exact ⟨⟨none, 0, rfl, SlIs.nil _ _ _⟩, Mod.refl _ _⟩
 | some a =>
  refine kB_at ?_
  refine kIf_F rfl ?_
  unfold f81_0
  refine kbldS_of (cs := []) rfl fun w5 h5 hs5 hb5 => ?_
  refine ksem_append apOrd (by omega) (vs := []) (Own.blk hb5 (n := 0) (by simp) (by simp [maxLen])) (Src.ofSlIs (hk := slOrd_is.choose_spec) c (hs.same h5) (ones_ord l)) (by simp [hfl]; omega) (by simp [hfl]; omega) ?_
  intro v' w' ho hm hf
  obtain ⟨a', n', c', rfl, hsl, _⟩ := ho.is
  have hn' : n' = l.length := by
   have h1 := hsl.1
   simp [hfl] at h1
   omega
  subst hn'
  exact ⟨⟨a', c', rfl, by simpa using hsl⟩, Mod.after h5 hm (fun b hb => by rw [vblk_new hb]; exact Nat.le_refl _)⟩
theorem oList {o : OC} {U : Nat → Prop} {w : World} {l : List OrdM} {gv dr : Nat} (h : OAt o U w l gv dr) (hn : l.length ≤ 1000000) :
  Meets Tryz.prog 30 #[.pointer (some ⟨o.bo, 0, none⟩)] w fun v w' => (∃ a' c', v = .slice a' l.length c' ∧ SlIs w' a' l.length 4 (l.flatMap OrdM.cells)) ∧ Same w w' := by
 obtain ⟨⟨sv, hh, hO, hv⟩, hcm, hown, hca, hgood, hrv, hfit⟩ := h
 obtain ⟨a', n', c', rfl, hsl, _⟩ := hO.is
 have hfl := flat_len OrdM.cells 4 (fun _ => rfl) l
 have hn' : n' = l.length := by have h1 := hsl.1; omega
 refine f30_ok ?_
 unfold f30
 rw [keq_ptr_nil ptOrd]
 refine kB_at ?_
 refine kIf_F rfl ?_
 unfold f30_0
 refine kN_at ?_
 refine kfld_of ?_
 refine kld_of (v := .slice a' n' c') hh rfl ?_
 refine kcall_of (cloneO_spec hsl hn' hn) ?_
 rintro v w6 ⟨h6, m6⟩
 exact ⟨h6, m6⟩
theorem oGiven {o : OC} {U : Nat → Prop} {w : World} {l : List OrdM} {gv dr : Nat} (h : OAt o U w l gv dr) :
  Meets Tryz.prog 28 #[.pointer (some ⟨o.bo, 0, none⟩)] w fun v w' => v = natV gv ∧ w' = w := by
 obtain ⟨sv, hh, _⟩ := h.ex
 refine f28_ok ?_
 unfold f28
 rw [keq_ptr_nil ptOrd]
 refine kB_at ?_
 refine kIf_F rfl ?_
 unfold f28_0
 refine kN_at ?_
 refine kfld_of ?_
 refine kld_of (v := natV gv) hh rfl ?_
 exact ⟨rfl, rfl⟩
theorem oDropped {o : OC} {U : Nat → Prop} {w : World} {l : List OrdM} {gv dr : Nat} (h : OAt o U w l gv dr) :
  Meets Tryz.prog 29 #[.pointer (some ⟨o.bo, 0, none⟩)] w fun v w' => v = natV dr ∧ w' = w := by
 obtain ⟨sv, hh, _⟩ := h.ex
 refine f29_ok ?_
 unfold f29
 rw [keq_ptr_nil ptOrd]
 refine kB_at ?_
 refine kIf_F rfl ?_
 unfold f29_0
 refine kN_at ?_
 refine kfld_of ?_
 refine kld_of (v := natV dr) hh rfl ?_
 exact ⟨rfl, rfl⟩
end
end Go.Proofs.YtmidldeaapdjoaaGreatDoor
