import Derived.Test.YtcabkicjboedaaaDoorEvGa
namespace Go.Ev
open Go
section
variable {P : Program} {ops : Array Oper} {anc : Nat → Nat → Bool} {Q : Act → World → Prop}
theorem apart_symm {x y : Oper} (h : x.apart ops y = true) : y.apart ops x = true := by
  obtain ⟨h1, h2, h3⟩ := Oper.apart_spec h
  unfold Oper.apart
  simp only [Bool.and_eq_true]
  refine ⟨?_, ?_⟩
  · cases hy : y.dst with
    | none => rfl
    | some d =>
      simp only [Bool.and_eq_true, Bool.not_eq_true', bne_iff_ne, ne_eq]
      refine ⟨by simpa using h3 d hy, fun e => h2 d e hy⟩
  · cases hx : x.dst with
    | none => rfl
    | some d => simpa using h1 d hx
structure Edges2 (ops : Array Oper) (anc : Nat → Nat → Bool) : Prop extends Edges ops anc where
  up : ∀ i o, ops[i]? = some o → ∀ e ∈ o.after, Region.binds .any e = true → anc i e.on = true ∧ ∀ k, anc e.on k = true → anc i k = true
theorem Edges.lt (he : Edges ops anc) : ∀ n i, i < n → ∀ k, anc i k = true → i < ops.size → k < i := by
  intro n
  induction n with
  | zero => intro i hi; omega
  | succ n ih =>
    intro i hi k hk hsz
    have hoi : ops[i]? = some (ops[i]'hsz) := by simp [hsz]
    obtain ⟨e, hem, heb, hek⟩ := he.step i _ hoi k hk
    have hb := he.back i _ hoi e hem heb
    rcases hek with rfl | hek
    · exact hb
    · have := ih e.on (by omega) k hek (by omega)
      omega
theorem Edges2.trans (he : Edges2 ops anc) : ∀ n i, i < n → ∀ k j, i < ops.size → anc i k = true → anc k j = true → anc i j = true := by
  intro n
  induction n with
  | zero => intro i hi; omega
  | succ n ih =>
    intro i hi k j hsz hk hj
    have hoi : ops[i]? = some (ops[i]'hsz) := by simp [hsz]
    obtain ⟨e, hem, heb, hek⟩ := he.step i _ hoi k hk
    have hb := he.back i _ hoi e hem heb
    have hup := he.up i _ hoi e hem heb
    rcases hek with rfl | hek
    · exact hup.2 j hj
    · exact hup.2 j (ih e.on (by omega) k j (by omega) hek hj)
theorem apart_any (he : Edges ops anc) {i j : Nat} {oi oj : Oper} (hi : ops[i]? = some oi) (hj : ops[j]? = some oj) (hne : i ≠ j) (h1 : anc i j = false) (h2 : anc j i = false) : oi.apart ops oj = true := by
  rcases Nat.lt_or_gt_of_ne hne with h | h
  · exact he.apart j oj i oi hj hi h h2
  · exact apart_symm (he.apart i oi j oj hi hj h h1)
theorem first_eff : ∀ (l : List Nat), l.Pairwise (· < ·) → (∃ i ∈ l, isEff P ops i = true) → ∃ i ∈ l, isEff P ops i = true ∧ ∀ k ∈ l, k < i → isEff P ops k = false
  | [], _, h => by obtain ⟨_, h, _⟩ := h; cases h
  | x :: l, hs, h => by
    by_cases hx : isEff P ops x = true
    · exact ⟨x, List.mem_cons_self, hx, fun k hk hlt => by
        rcases List.mem_cons.1 hk with rfl | hk
        · omega
        · have := (List.pairwise_cons.1 hs).1 k hk; omega⟩
    · obtain ⟨i, hi, he⟩ := h
      have hi' : i ∈ l := (List.mem_cons.1 hi).resolve_left (fun e => hx (e ▸ he))
      obtain ⟨m, hm, h1, h2⟩ := first_eff l (List.pairwise_cons.1 hs).2 ⟨i, hi', he⟩
      refine ⟨m, List.mem_cons_of_mem _ hm, h1, fun k hk hlt => ?_⟩
      rcases List.mem_cons.1 hk with rfl | hk
      · simpa using hx
      · exact h2 k hk hlt
theorem erase_filter' {l : List Nat} (hn : l.Nodup) (p : Nat → Bool) (j : Nat) : (l.erase j).filter p = (l.filter p).erase j := by
  have hn' : (l.filter p).Nodup := List.Pairwise.filter p hn
  rw [hn.erase_eq_filter, List.Nodup.erase_eq_filter hn', List.filter_filter, List.filter_filter]
  congr 1; funext x; exact Bool.and_comm _ _
/-- What only reads and may come up now may be taken first. -/
theorem W.quiet (he : Edges2 ops anc) {j : Nat} {oj : Oper} (hj : ops[j]? = some oj) (hq : isEff P ops j = false) : ∀ (f : Nat) (l : List Nat) (pend : Pend) (past : Past) (a : Act) (w : World), j ∈ l → l.Pairwise (· < ·) → (∀ k ∈ l, k < ops.size) → (∀ k ∈ l, anc j k = false) →
    W P ops anc Q f l pend past a w → quietStep P ops anc past w j (fun pend a => W P ops anc Q f (l.erase j) pend past a w) pend a := by
  intro f
  induction f with
  | zero => intro l pend past a w _ _ _ _ h; exact h.elim
  | succ f ih =>
    intro l pend past a w hm hs hsz hr h
    have hnd : l.Nodup := hs.imp (fun h => by omega)
    rw [W] at h
    by_cases hall : (l.all fun i => !isEff P ops i) = true
    · rw [if_pos hall] at h
      refine (Tq.front he.sel (D := fun _ a => Q a w) (fun _ _ _ _ h => h) hm hs ?_ h).mono fun pend a h => ?_
      · intro k hk hlt ok oj' hok hoj'
        rw [hj] at hoj'; cases hoj'
        exact he.apart j oj k ok hj hok hlt (hr k hk)
      · rw [W, if_pos]
        · exact h
        · rw [List.all_eq_true] at hall ⊢
          exact fun x hx => hall x (List.mem_of_mem_erase hx)
    · rw [if_neg hall] at h
      have hex : ∃ i ∈ l, isEff P ops i = true := by
        have hf : (l.all fun i => !isEff P ops i) = false := by simpa using hall
        rw [List.all_eq_false] at hf
        obtain ⟨i, hi, h⟩ := hf
        exact ⟨i, hi, by simpa using h⟩
      obtain ⟨i0, hi0, he0, hmin⟩ := first_eff l hs hex
      have hen0 : ∀ k ∈ l, anc i0 k = true → isEff P ops k = false := fun k hk ha => hmin k hk (he.toEdges.lt (i0 + 1) i0 (by omega) k ha (hsz i0 hi0))
      have hall' := quietStep.all (P := P) (ops := ops) (anc := anc) (past := past) (w := w) (j := j) (ι := Nat) (p := fun i => i ∈ l ∧ isEff P ops i = true ∧ ∀ k ∈ l, anc i k = true → isEff P ops k = false)
        i0 ⟨hi0, he0, hen0⟩ (D := fun i pend a => Tq P ops anc past w ((l.erase j).filter fun k => anc i k) (fun pend a => effStep P ops anc i (fun pend past a w => W P ops anc Q f ((l.erase j).filter fun k => !anc i k && k != i) pend past a w) pend past a w) pend a) (pend := pend) (a := a) (by
        rintro i ⟨hi, hei, hen⟩
        have hB := h i hi hei hen
        have hij : i ≠ j := fun e => by rw [e, hq] at hei; cases hei
        have hpm : ∀ R, PM fun pend a => effStep P ops anc i (fun pend past a w => W P ops anc Q f R pend past a w) pend past a w :=
          fun R p p' a hs h => effStep.mono h hs fun past a w h => W.pm f hs h
        by_cases haij : anc i j = true
        · have hjF : j ∈ l.filter fun k => anc i k := List.mem_filter.2 ⟨hm, haij⟩
          have hR : ((l.erase j).filter fun k => !anc i k && k != i) = l.filter fun k => !anc i k && k != i := by
            rw [erase_filter' hnd]
            exact List.erase_of_not_mem (fun hx => by have := (List.mem_filter.1 hx).2; simp [haij] at this)
          rw [erase_filter' hnd, hR]
          exact Tq.front he.sel (hpm _) hjF (hs.filter _) (fun k hk hlt ok oj' hok hoj' => by
            rw [hj] at hoj'; cases hoj'
            exact he.apart j oj k ok hj hok hlt (hr k (List.mem_filter.1 hk).1)) hB
        · have haij : anc i j = false := by simpa using haij
          have hF : ((l.erase j).filter fun k => anc i k) = l.filter fun k => anc i k := by
            rw [erase_filter' hnd]
            exact List.erase_of_not_mem (fun hx => by have := (List.mem_filter.1 hx).2; simp [haij] at this)
          have hjR : j ∈ l.filter fun k => !anc i k && k != i := List.mem_filter.2 ⟨hm, by simp [haij, Ne.symm hij]⟩
          rw [hF, erase_filter' hnd]
          refine Tq.pull he.sel (hpm _) (fun k hk ok oj' hok hoj' => ?_) (hB.mono fun pend a hE => ?_)
          · have hk' := List.mem_filter.1 hk
            have hkj : anc k j = false := by
              cases hc : anc k j with
              | false => rfl
              | true =>
                have := he.trans (i + 1) i (by omega) k j (hsz i hi) hk'.2 hc
                rw [haij] at this; cases this
            have hne : k ≠ j := fun e => by rw [e] at hk'; rw [haij] at hk'; cases hk'.2
            exact apart_any he.toEdges hok hoj' hne hkj (by rw [hj] at hoj'; exact hr k hk'.1)
          · refine effSwap he.sel (hr i hi) (fun oi oj' hoi hoj' => apart_any he.toEdges hoi hoj' hij haij (hr i hi)) ?_
            exact effStep.mono hE (fun _ h => h) fun past a w hW => ih _ _ _ _ _ hjR (hs.filter _) (fun k hk => hsz k (List.mem_filter.1 hk).1) (fun k hk => hr k (List.mem_filter.1 hk).1) hW)
      refine hall'.mono fun pend a h => ?_
      rw [W, if_neg]
      · intro i hi hei hen
        have hil : i ∈ l := List.mem_of_mem_erase hi
        refine h i ⟨hil, hei, fun k hk ha => ?_⟩
        by_cases hkj : k = j
        · subst hkj; exact hq
        · exact hen k ((hnd.mem_erase_iff).2 ⟨hkj, hk⟩) ha
      · intro hc
        rw [List.all_eq_true] at hc
        have : i0 ≠ j := fun e => by rw [e, hq] at he0; cases he0
        have := hc i0 ((hnd.mem_erase_iff).2 ⟨this, hi0⟩)
        rw [he0] at this; cases this

theorem wpAny_W (he : Edges2 ops anc) {Q' : Exit → Act → World → Prop} (hQ : ∀ a w, Q a w → Q' .normal a w) : ∀ (fuel : Nat) (listed : Array Bool) (f : Nat) (l : List Nat) (pend : Pend) (past : Past) (a : Act) (w : World),
    listed.size = ops.size → l.length ≤ fuel → l.Pairwise (· < ·) → (∀ i, i ∈ l ↔ i < ops.size ∧ listed.getD i true = false) →
    (∀ i o, ops[i]? = some o → listed.getD i false = true → ∀ e ∈ o.after, Region.binds .any e = true → listed.getD e.on false = true) →
    W P ops anc Q f l pend past a w → wpAny P .any ops Q' fuel listed a w := by
  have hanc : ∀ (listed : Array Bool), listed.size = ops.size → (∀ i o, ops[i]? = some o → listed.getD i false = true → ∀ e ∈ o.after, Region.binds .any e = true → listed.getD e.on false = true) →
      ∀ n i, i < n → ∀ o, ops[i]? = some o → (∀ e ∈ o.after, Region.binds .any e = true → listed.getD e.on false = true) → ∀ k, anc i k = true → listed.getD k false = true := by
    intro listed hsz hdown n
    induction n with
    | zero => intro i hi; omega
    | succ n ih =>
      intro i hi o ho hall k hk
      obtain ⟨e, hem, heb, hek⟩ := he.step i o ho k hk
      have hl := hall e hem heb
      rcases hek with rfl | hek
      · exact hl
      · have hb := he.back i o ho e hem heb
        have hlt : i < ops.size := (Array.getElem?_eq_some_iff.1 ho).1
        have hoe : ops[e.on]? = some (ops[e.on]'(by omega)) := by simp [show e.on < ops.size by omega]
        exact ih e.on (by omega) _ hoe (fun e' hm' hb' => hdown e.on _ hoe hl e' hm' hb') k hek
  intro fuel
  induction fuel with
  | zero =>
    intro listed f l pend past a w hsz hlen hs hm hdown h
    have : l = [] := List.eq_nil_of_length_eq_zero (by omega)
    subst this
    have hq : Q a w := by
      cases f with
      | zero => exact h.elim
      | succ f => rw [W, if_pos (by rfl)] at h; exact h
    refine ⟨?_, hQ _ _ hq⟩
    apply List.eq_nil_iff_forall_not_mem.2
    intro j hj
    obtain ⟨h0, o, ho, _⟩ := mem_ready.1 hj
    have := (hm j).2 ⟨(Array.getElem?_eq_some_iff.1 ho).1, h0⟩
    cases this
  | succ fuel ih =>
    intro listed f l pend past a w hsz hlen hs hm hdown h
    refine ⟨fun hr => ?_, fun i hi => ?_⟩
    · cases l with
      | nil =>
        cases f with
        | zero => exact h.elim
        | succ f => rw [W, if_pos (by rfl)] at h; exact hQ _ _ h
      | cons i l =>
        exfalso
        have him := (hm i).1 List.mem_cons_self
        have hoi : ops[i]? = some (ops[i]'him.1) := by simp [him.1]
        have : i ∈ Region.ready .any ops listed := by
          refine mem_ready.2 ⟨him.2, _, hoi, fun e hem heb => ?_⟩
          have hb := he.back i _ hoi e hem heb
          cases hl : listed.getD e.on false with
          | true => rfl
          | false =>
            have hlt : e.on < listed.size := by omega
            have h2 : listed.getD e.on true = false := by simp [hlt] at hl ⊢; exact hl
            have := (hm e.on).2 ⟨by omega, h2⟩
            rcases List.mem_cons.1 this with h3 | h3
            · omega
            · have := (List.pairwise_cons.1 hs).1 _ h3
              omega
        rw [hr] at this; cases this
    · obtain ⟨hun, oi, hoi, hall⟩ := mem_ready.1 hi
      have hilt : i < ops.size := (Array.getElem?_eq_some_iff.1 hoi).1
      have him : i ∈ l := (hm i).2 ⟨hilt, hun⟩
      have hna : ∀ k ∈ l, anc i k = false := by
        intro k hk
        have hk' := (hm k).1 hk
        cases ha : anc i k with
        | false => rfl
        | true =>
          have := hanc listed hsz hdown (i + 1) i (by omega) oi hoi hall k ha
          have h2 := hk'.2
          have hlt2 : k < listed.size := by omega
          simp [hlt2] at this h2
          rw [this] at h2; cases h2
      have hnd : l.Nodup := hs.imp (fun h => by omega)
      have next : ∀ {f : Nat} {pend : Pend} {past : Past} {a : Act} {w : World}, W P ops anc Q f (l.erase i) pend past a w → wpAny P .any ops Q' fuel (listed.setIfInBounds i true) a w := by
        intro f pend past a w h
        refine ih _ f (l.erase i) pend past a w (by simpa using hsz) ?_ (hs.sublist List.erase_sublist) ?_ ?_ h
        · rw [List.length_erase_of_mem him]; omega
        · intro j
          rw [hnd.mem_erase_iff, hm j]
          by_cases hji : j = i
          · subst hji
            simp [show j < listed.size by omega]
          · rw [getD_set_ne true (Ne.symm hji)]
            simp [hji]
        · intro j o ho hl e hem heb
          by_cases hji : j = i
          · subst hji
            rw [hoi] at ho; cases ho
            exact getD_set_true (hall e hem heb)
          · rw [getD_set_ne false (Ne.symm hji)] at hl
            exact getD_set_true (hdown j o ho hl e hem heb)
      unfold wpOp
      simp only [hoi]
      cases hei : isEff P ops i with
      | false =>
        have hq := W.quiet he hoi hei f l pend past a w him hs (fun k hk => ((hm k).1 hk).1) hna h
        unfold quietStep at hq
        simp only [hoi] at hq
        split
        · rename_i hw
          simp only [hw, if_true] at hq
          refine .inl ?_
          have heff : EffOp P (execOp a.eval oi) w fun v w' => wpAny P .any ops Q' fuel (listed.setIfInBounds i true) (a.put oi.dst v) w' := by
            cases hc : cls P oi.op <;> simp only [hc] at hq
            · obtain ⟨v, hv, h⟩ := hq
              unfold EffOp
              rw [hv w]; exact next h
            · obtain ⟨v, hv, _, h⟩ := hq
              unfold EffOp
              rw [hv]; exact next h
          exact Oper.wp_mono (fun a' w' ⟨v, e, hv⟩ => by subst e; exact hv) (heff.wp (Q := Q'))
        · rename_i hw
          simp only [hw] at hq
          exact next hq
      | true =>
        cases f with
        | zero => exact h.elim
        | succ f =>
          rw [W, if_neg (by
            intro hc
            rw [List.all_eq_true] at hc
            have := hc i him
            rw [hei] at this; cases this)] at h
          have hB := h i him hei (fun k hk ha => by rw [hna k hk] at ha; cases ha)
          have hF : (l.filter fun k => anc i k) = [] := List.filter_eq_nil_iff.2 (fun k hk => by simp [hna k hk])
          have hR : (l.filter fun k => !anc i k && k != i) = l.erase i := by
            rw [hnd.erase_eq_filter]
            apply List.filter_congr
            intro k hk
            simp [hna k hk]
          rw [hF, hR] at hB
          have hB : effStep P ops anc i (fun pend past a w => W P ops anc Q f (l.erase i) pend past a w) pend past a w := hB
          unfold effStep at hB
          simp only [hoi] at hB
          split
          · rename_i hw
            simp only [hw, if_true] at hB
            refine .inl ?_
            exact Oper.wp_mono (fun a' w' ⟨v, e, hv⟩ => by subst e; exact hv) ((hB.mono fun v w' ⟨_, h⟩ => next h : EffOp P _ w fun v w' => wpAny P .any ops Q' fuel (listed.setIfInBounds i true) (a.put oi.dst v) w').wp (Q := Q'))
          · rename_i hw
            simp only [hw] at hB
            exact next hB
theorem wp_region_W {id : Nat} {Q' : Exit → Act → World → Prop} {a : Act} {w : World} (hm : P.follows .mixedOrders = true) (he : Edges2 ops anc) (hQ : ∀ a w, Q a w → Q' .normal a w) {f : Nat}
    (h : W P ops anc Q f (List.range ops.size) [] [] a w.drew) : (Code.region id ops true).wp P Q' a w := by
  refine wp_region_any hm (wpAny_W he hQ ops.size _ f (List.range ops.size) [] [] a _ (by simp) (by simp) List.pairwise_lt_range ?_ ?_ h)
  · intro i
    simp only [List.mem_range]
    constructor
    · intro hi; exact ⟨hi, by simp [hi]⟩
    · exact fun h => h.1
  · intro i o ho hl
    have hi : i < ops.size := (Array.getElem?_eq_some_iff.1 ho).1
    simp [hi] at hl
end
end Go.Ev
