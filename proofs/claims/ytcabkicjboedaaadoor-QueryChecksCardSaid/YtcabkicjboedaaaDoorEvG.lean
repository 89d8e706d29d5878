import Derived.Test.YtcabkicjboedaaaDoorEvF
namespace Go.Ev
open Go
section
variable {P : Program} {ops : Array Oper} {anc : Nat → Nat → Bool} {Q : Act → World → Prop}
/-- Whatever order is picked from here on. -/
theorem T.front (hsel : ∀ (j : Nat) (o : Oper) cs b, ops[j]? = some o → o.op ≠ .select cs b) {i : Nat} {oi : Oper} (hi : ops[i]? = some oi) : ∀ (l : List Nat) {pend : Pend} {past : Past} {a : Act} {w : World}, i ∈ l →
    (∀ k ∈ l, k < i → anc i k = false ∧ ∃ ok, ops[k]? = some ok ∧ ok.apart ops oi = true) → l.Pairwise (· < ·) → T P ops anc Q l pend past a w → T P ops anc Q (i :: l.erase i) pend past a w
  | [], _, _, _, _, hm, _, _, _ => by cases hm
  | k :: l, pend, past, a, w, hm, hf, hs, h => by
    by_cases hki : k = i
    · subst hki; simpa using h
    · have hm' : i ∈ l := (List.mem_cons.1 hm).resolve_left (fun e => hki e.symm)
      have hlt : k < i := (List.pairwise_cons.1 hs).1 i hm'
      obtain ⟨h1, ok, hk, hap⟩ := hf k List.mem_cons_self hlt
      have he : (k :: l).erase i = k :: l.erase i := by rw [List.erase_cons]; simp [hki]
      rw [he]
      refine T.swap hk hi h1 hap (hsel k ok · · hk) (hsel i oi · · hi) ?_
      have ih : ∀ {pend : Pend} {past : Past} {a : Act} {w : World}, T P ops anc Q l pend past a w → T P ops anc Q (i :: l.erase i) pend past a w := fun h =>
        T.front hsel hi l hm' (fun k' hk' hlt' => hf k' (List.mem_cons_of_mem _ hk') hlt') (List.pairwise_cons.1 hs).2 h
      rw [T.eq_def] at h
      rw [T.eq_def]
      simp only [hk] at h ⊢
      split
      · rename_i hw
        simp only [hw, if_true] at h
        cases hc : cls P ok.op <;> simp only [hc] at h ⊢
        · obtain ⟨v, hv, h⟩ := h
          exact ⟨v, hv, ih h⟩
        · obtain ⟨v, hv, hp, h⟩ := h
          exact ⟨v, hv, hp, ih h⟩
        · exact ⟨h.1, h.2.mono fun v w' ⟨h1, h2⟩ => ⟨h1, ih h2⟩⟩
      · rename_i hw
        simp only [hw] at h
        exact ih h

/-- What is asked of the region's edges: they lead backwards; 'anc' holds what they lead to, and neighbours without an edge share no temporary. -/
structure Edges (ops : Array Oper) (anc : Nat → Nat → Bool) : Prop where
  sel : ∀ (j : Nat) (o : Oper) cs b, ops[j]? = some o → o.op ≠ .select cs b
  back : ∀ i o, ops[i]? = some o → ∀ e ∈ o.after, Region.binds .any e = true → e.on < i
  step : ∀ i o, ops[i]? = some o → ∀ k, anc i k = true → ∃ e ∈ o.after, Region.binds .any e = true ∧ (e.on = k ∨ anc e.on k = true)
  apart : ∀ i oi k ok, ops[i]? = some oi → ops[k]? = some ok → k < i → anc i k = false → ok.apart ops oi = true

theorem wpAny_T (he : Edges ops anc) {Q' : Exit → Act → World → Prop} (hQ : ∀ a w, Q a w → Q' .normal a w) : ∀ (fuel : Nat) (listed : Array Bool) (l : List Nat) (pend : Pend) (past : Past) (a : Act) (w : World),
    listed.size = ops.size → l.length ≤ fuel → l.Pairwise (· < ·) → (∀ i, i ∈ l ↔ i < ops.size ∧ listed.getD i true = false) →
    (∀ i o, ops[i]? = some o → listed.getD i false = true → ∀ e ∈ o.after, Region.binds .any e = true → listed.getD e.on false = true) →
    T P ops anc Q l pend past a w → wpAny P .any ops Q' fuel listed a w := by
  -- what is ready has all its ancestors behind it
  have hanc : ∀ (listed : Array Bool), listed.size = ops.size → (∀ i o, ops[i]? = some o → listed.getD i false = true → ∀ e ∈ o.after, Region.binds .any e = true → listed.getD e.on false = true) →
      ∀ n i, i < n → ∀ o, ops[i]? = some o → (∀ e ∈ o.after, Region.binds .any e = true → listed.getD e.on false = true) → ∀ k, anc i k = true → listed.getD k false = true := by
    intro listed hsz hdown n
    induction n with
    | zero => intro i hi; omega
    | succ n ih =>
      intro i hi o ho hall k hk
      obtain ⟨e, hem, heb, hek⟩ := he.step i o ho k hk
      have hl := hall e hem heb
      rcases hek with rfl | hek
      · exact hl
      · have hb := he.back i o ho e hem heb
        have hlt : i < ops.size := (Array.getElem?_eq_some_iff.1 ho).1
        have hoe : ops[e.on]? = some (ops[e.on]'(by omega)) := by simp [show e.on < ops.size by omega]
        exact ih e.on (by omega) _ hoe (fun e' hm' hb' => hdown e.on _ hoe hl e' hm' hb') k hek
  intro fuel
  induction fuel with
  | zero =>
    intro listed l pend past a w hsz hlen hs hm hdown h
    have : l = [] := List.eq_nil_of_length_eq_zero (by omega)
    subst this
    refine ⟨?_, hQ _ _ h⟩
    apply List.eq_nil_iff_forall_not_mem.2
    intro j hj
    obtain ⟨h0, o, ho, _⟩ := mem_ready.1 hj
    have := (hm j).2 ⟨(Array.getElem?_eq_some_iff.1 ho).1, h0⟩
    cases this
  | succ fuel ih =>
    intro listed l pend past a w hsz hlen hs hm hdown h
    refine ⟨fun hr => ?_, fun i hi => ?_⟩
    · cases l with
      | nil => exact hQ _ _ h
      | cons i l =>
        exfalso
        have him := (hm i).1 List.mem_cons_self
        have hoi : ops[i]? = some (ops[i]'him.1) := by simp [him.1]
        have : i ∈ Region.ready .any ops listed := by
          refine mem_ready.2 ⟨him.2, _, hoi, fun e hem heb => ?_⟩
          have hb := he.back i _ hoi e hem heb
          cases hl : listed.getD e.on false with
          | true => rfl
          | false =>
            have hlt : e.on < listed.size := by omega
            have h2 : listed.getD e.on true = false := by simp [hlt] at hl ⊢; exact hl
            have := (hm e.on).2 ⟨by omega, h2⟩
            rcases List.mem_cons.1 this with h3 | h3
            · omega
            · have := (List.pairwise_cons.1 hs).1 _ h3
              omega
        rw [hr] at this; cases this
    · obtain ⟨hun, oi, hoi, hall⟩ := mem_ready.1 hi
      have hilt : i < ops.size := (Array.getElem?_eq_some_iff.1 hoi).1
      have him : i ∈ l := (hm i).2 ⟨hilt, hun⟩
      have hfront := T.front he.sel hoi l him (fun k hk hlt => by
        have hk' := (hm k).1 hk
        have hok : ops[k]? = some (ops[k]'hk'.1) := by simp [hk'.1]
        have hna : anc i k = false := by
          cases ha : anc i k with
          | false => rfl
          | true =>
            have := hanc listed hsz hdown (i + 1) i (by omega) oi hoi hall k ha
            have h2 := hk'.2
            have hlt2 : k < listed.size := by omega
            simp [hlt2] at this h2
            rw [this] at h2; cases h2
        exact ⟨hna, _, hok, he.apart i oi k _ hoi hok hlt hna⟩) hs h
      have next : ∀ {pend : Pend} {past : Past} {a : Act} {w : World}, T P ops anc Q (l.erase i) pend past a w → wpAny P .any ops Q' fuel (listed.setIfInBounds i true) a w := by
        intro pend past a w h
        refine ih _ (l.erase i) pend past a w (by simpa using hsz) ?_ (hs.sublist List.erase_sublist) ?_ ?_ h
        · rw [List.length_erase_of_mem him]; omega
        · intro j
          have hnd : l.Nodup := hs.imp (fun h => by omega)
          rw [hnd.mem_erase_iff, hm j]
          by_cases hji : j = i
          · subst hji
            simp [show j < listed.size by omega]
          · rw [getD_set_ne true (Ne.symm hji)]
            simp [hji]
        · intro j o ho hl e hem heb
          by_cases hji : j = i
          · subst hji
            rw [hoi] at ho; cases ho
            exact getD_set_true (hall e hem heb)
          · rw [getD_set_ne false (Ne.symm hji)] at hl
            exact getD_set_true (hdown j o ho hl e hem heb)
      rw [T.eq_def] at hfront
      simp only [hoi] at hfront
      unfold wpOp
      simp only [hoi]
      split
      · rename_i hw
        simp only [hw, if_true] at hfront
        refine .inl ?_
        have heff : EffOp P (execOp a.eval oi) w fun v w' => wpAny P .any ops Q' fuel (listed.setIfInBounds i true) (a.put oi.dst v) w' := by
          cases hc : cls P oi.op <;> simp only [hc] at hfront
          · obtain ⟨v, hv, h⟩ := hfront
            unfold EffOp
            rw [hv w]; exact next h
          · obtain ⟨v, hv, _, h⟩ := hfront
            unfold EffOp
            rw [hv]; exact next h
          · exact hfront.2.mono fun v w' ⟨_, h⟩ => next h
        exact Oper.wp_mono (fun a' w' ⟨v, e, hv⟩ => by subst e; exact hv) (heff.wp (Q := Q'))
      · rename_i hw
        simp only [hw] at hfront
        exact next hfront

theorem wp_region_T {id : Nat} {Q' : Exit → Act → World → Prop} {a : Act} {w : World} (hm : P.follows .mixedOrders = true) (he : Edges ops anc) (hQ : ∀ a w, Q a w → Q' .normal a w)
    (h : T P ops anc Q (List.range ops.size) [] [] a w.drew) : (Code.region id ops true).wp P Q' a w := by
  refine wp_region_any hm (wpAny_T he hQ ops.size _ (List.range ops.size) [] [] a _ (by simp) (by simp) List.pairwise_lt_range ?_ ?_ h)
  · intro i
    simp only [List.mem_range]
    constructor
    · intro hi; exact ⟨hi, by simp [hi]⟩
    · exact fun h => h.1
  · intro i o ho hl
    have hi : i < ops.size := (Array.getElem?_eq_some_iff.1 ho).1
    simp [hi] at hl
end
end Go.Ev
