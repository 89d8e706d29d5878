import Derived.Test.YtcabkicjboedaaaDoorEvI
namespace Go.Ev
open Go
/-! ### From the Bool over a region to its edges -/
def maskOf (o : Oper) (acc : List Nat) : Nat := o.after.toList.foldl (fun s e => bif Region.binds .any e then s ||| 2 ^ e.on ||| acc.getD e.on 0 else s) 0
theorem ancs_prefix : ∀ (l : List Oper) (acc : List Nat), acc <+: ancs.go l acc
  | [], _ => List.prefix_refl _
  | _ :: l, _ => (List.prefix_append _ _).trans (ancs_prefix l _)
theorem ancs_get : ∀ (l : List Oper) (acc : List Nat) (i : Nat) (o : Oper), l[i]? = some o → ∃ acc', acc'.length = acc.length + i ∧ acc' <+: ancs.go l acc ∧ (ancs.go l acc)[acc.length + i]? = some (maskOf o acc')
  | [], _, _, _, h => by simp at h
  | o' :: l, acc, 0, o, h => by
    simp at h; subst h
    refine ⟨acc, rfl, ancs_prefix _ _, ?_⟩
    have hp := ancs_prefix l (acc ++ [maskOf o' acc])
    obtain ⟨r, hr⟩ := hp
    show (ancs.go l (acc ++ [maskOf o' acc]))[acc.length + 0]? = _
    rw [← hr]; simp
  | o' :: l, acc, i + 1, o, h => by
    obtain ⟨acc', h1, h2, h3⟩ := ancs_get l (acc ++ [maskOf o' acc]) i o (by simpa using h)
    refine ⟨acc', by simp at h1; omega, h2, ?_⟩
    have : acc.length + (i + 1) = (acc ++ [maskOf o' acc]).length + i := by simp; omega
    rw [this]; exact h3
theorem foldl_bit (acc : List Nat) (k : Nat) : ∀ (es : List Edge) (s : Nat), Nat.testBit (es.foldl (fun s e => bif Region.binds .any e then s ||| 2 ^ e.on ||| acc.getD e.on 0 else s) s) k = true →
    Nat.testBit s k = true ∨ ∃ e ∈ es, Region.binds .any e = true ∧ (e.on = k ∨ Nat.testBit (acc.getD e.on 0) k = true)
  | [], s, h => .inl h
  | e :: es, s, h => by
    simp only [List.foldl_cons] at h
    rcases foldl_bit acc k es _ h with h | ⟨e', h1, h2, h3⟩
    · cases hb : Region.binds .any e
      · simp only [hb, cond_false] at h; exact .inl h
      · simp only [hb, cond_true, Nat.testBit_or, Bool.or_eq_true] at h
        rcases h with (h | h) | h
        · exact .inl h
        · refine .inr ⟨e, List.mem_cons_self, hb, .inl ?_⟩
          rw [Nat.testBit_two_pow] at h
          simpa using h
        · exact .inr ⟨e, List.mem_cons_self, hb, .inr h⟩
    · exact .inr ⟨e', List.mem_cons_of_mem _ h1, h2, h3⟩
theorem backB_spec : ∀ {l : List Oper} {i : Nat}, backB l i = true → ∀ j o, l[j]? = some o → ∀ e ∈ o.after, Region.binds .any e = true → e.on < i + j
  | [], _, _, j, o, h, _, _, _ => by simp at h
  | o' :: l, i, hb, 0, o, h, e, he, hbd => by
    simp at h; subst h
    simp only [backB, Bool.and_eq_true, List.all_eq_true] at hb
    have := hb.1 e (by simpa using he)
    simp [hbd] at this
    omega
  | o' :: l, i, hb, j + 1, o, h, e, he, hbd => by
    simp only [backB, Bool.and_eq_true] at hb
    have := backB_spec hb.2 j o (by simpa using h) e he hbd
    omega
theorem foldl_keep (acc : List Nat) (k : Nat) : ∀ (es : List Edge) (s : Nat), Nat.testBit s k = true → Nat.testBit (es.foldl (fun s e => bif Region.binds .any e then s ||| 2 ^ e.on ||| acc.getD e.on 0 else s) s) k = true
  | [], s, h => h
  | e :: es, s, h => by
    simp only [List.foldl_cons]
    refine foldl_keep acc k es _ ?_
    cases Region.binds .any e
    · exact h
    · simp [h]
theorem foldl_up (acc : List Nat) (k : Nat) : ∀ (es : List Edge) (s : Nat) (e : Edge), e ∈ es → Region.binds .any e = true → (e.on = k ∨ Nat.testBit (acc.getD e.on 0) k = true) →
    Nat.testBit (es.foldl (fun s e => bif Region.binds .any e then s ||| 2 ^ e.on ||| acc.getD e.on 0 else s) s) k = true
  | [], _, _, h, _, _ => by cases h
  | e' :: es, s, e, h, hb, hk => by
    simp only [List.foldl_cons]
    rcases List.mem_cons.1 h with rfl | h
    · refine foldl_keep acc k es _ ?_
      simp only [hb, cond_true, Nat.testBit_or, Bool.or_eq_true]
      rcases hk with rfl | hk
      · exact .inl (.inr (by rw [Nat.testBit_two_pow]; simp))
      · exact .inr hk
    · exact foldl_up acc k es _ e h hb hk
theorem edgesB_spec1 {ops : Array Oper} (h : edgesB ops = true) : Edges ops (fun i k => Nat.testBit ((ancs ops.toList).getD i 0) k) := by
  simp only [edgesB, Bool.and_eq_true] at h
  obtain ⟨⟨h1, h2⟩, h3⟩ := h
  refine ⟨fun j o cs b ho => Region.noSelect_spec h1 j o cs b ho, fun i o ho e he hb => ?_, fun i o ho k hk => ?_, fun i oi k ok hi hk hlt ha => ?_⟩
  · have := backB_spec h2 i o (by simpa using ho) e he hb
    omega
  · obtain ⟨acc', e1, e2, e3⟩ := ancs_get ops.toList [] i o (by simpa using ho)
    simp only [List.length_nil, Nat.zero_add] at e1 e3
    have e3' : (ancs ops.toList).getD i 0 = maskOf o acc' := by
      have : (ancs ops.toList)[i]? = some (maskOf o acc') := e3
      simp [List.getD, this]
    simp only [e3'] at hk
    rcases foldl_bit acc' k _ _ hk with hk | ⟨e, he, hb, hk⟩
    · simp at hk
    · refine ⟨e, by simpa using he, hb, ?_⟩
      rcases hk with hk | hk
      · exact .inl hk
      · have hb' := backB_spec h2 i o (by simpa using ho) e (by simpa using he) hb
        obtain ⟨r, hr⟩ := e2
        have : (ancs ops.toList).getD e.on 0 = acc'.getD e.on 0 := by
          have hlt : e.on < acc'.length := by omega
          show (ancs.go ops.toList []).getD e.on 0 = _
          rw [← hr]
          simp [List.getD, List.getElem?_append_left hlt]
        exact .inr (by simpa only [this] using hk)
  · simp only [apartB, List.all_eq_true, List.mem_range] at h3
    have := h3 i (Array.getElem?_eq_some_iff.1 hi).1 k hlt
    simp only [hi, hk, ha, Bool.false_or] at this
    exact this

theorem edgesB_spec {ops : Array Oper} (h : edgesB ops = true) : Edges2 ops (fun i k => Nat.testBit ((ancs ops.toList).getD i 0) k) := by
  refine ⟨edgesB_spec1 h, fun i o ho e he hb => ?_⟩
  simp only [edgesB, Bool.and_eq_true] at h
  obtain ⟨⟨h1, h2⟩, h3⟩ := h
  obtain ⟨acc', e1, e2, e3⟩ := ancs_get ops.toList [] i o (by simpa using ho)
  simp only [List.length_nil, Nat.zero_add] at e1 e3
  have e3' : (ancs ops.toList).getD i 0 = maskOf o acc' := by
    have : (ancs ops.toList)[i]? = some (maskOf o acc') := e3
    simp [List.getD, this]
  have hb' := backB_spec h2 i o (by simpa using ho) e (by simpa using he) hb
  obtain ⟨r, hr⟩ := e2
  have hge : (ancs ops.toList).getD e.on 0 = acc'.getD e.on 0 := by
    have hlt : e.on < acc'.length := by omega
    show (ancs.go ops.toList []).getD e.on 0 = _
    rw [← hr]
    simp [List.getD, List.getElem?_append_left hlt]
  refine ⟨?_, fun k hk => ?_⟩
  · simp only [e3']
    exact foldl_up acc' e.on _ _ e (by simpa using he) hb (.inl rfl)
  · simp only [hge] at hk
    simp only [e3']
    exact foldl_up acc' k _ _ e (by simpa using he) hb (.inr hk)
/-! ### Soundness -/
section
variable {P : Program} {n : Nat} {hs : List (Nat × List Nat)}
theorem egets_sound {e : Env} {a : Act} (ag : Agree e a) : ∀ {st : List Nat} {vs : List Value}, egets e st = some vs → st.map (fun t => a.tmps.getD t undef) = vs
  | [], vs, h => by simp [egets] at h; simp [h]
  | t :: st, vs, h => by
    simp only [egets] at h
    split at h
    · cases h
    · rename_i v hv
      split at h
      · cases h
      · rename_i us hu
        cases h
        have hg : eget e t = .val v := by cases hg : eget e t <;> rw [hg] at hv <;> simp [AV.opt] at hv; rw [hv]
        simp only [List.map_cons, ag.val hg, egets_sound ag hu]
theorem forget_get (ms : List Nat) (e : Env) (t : Nat) : eget (headE.forget ms e) t = if t ∈ ms then .unk else eget e t := by
  induction ms with
  | nil => simp [headE.forget]
  | cons m ms ih =>
    simp only [headE.forget, eget_cons, ih]
    by_cases h : m = t
    · subst h; simp
    · simp [h, show ¬ t = m from fun e => h e.symm]
theorem headE_get {ms : List Nat} {e : Env} : ∀ {st : List Nat} {vs : List Value} (t : Nat), eget (headE st vs ms e) t = .unk ∨ (∃ v, eget (headE st vs ms e) t = .val v ∧ (t, v) ∈ st.zip vs) ∨ (eget (headE st vs ms e) t = eget e t ∧ t ∉ ms)
  | [], vs, t => by
    simp only [headE, forget_get]
    by_cases h : t ∈ ms
    · simp [h]
    · simp [h]
  | s :: st, [], t => by
    simp only [headE, forget_get]
    by_cases h : t ∈ ms
    · simp [h]
    · simp [h]
  | s :: st, v :: vs, t => by
    simp only [headE, eget_cons]
    by_cases h : s = t
    · subst h; simp
    · simp only [h, if_false]
      rcases headE_get (st := st) (vs := vs) (ms := ms) (e := e) t with h1 | ⟨u, h1, h2⟩ | h1
      · exact .inl h1
      · exact .inr (.inl ⟨u, h1, by simp [h2]⟩)
      · exact .inr (.inr h1)
theorem zip_map {α β : Type} (f : α → β) : ∀ {st : List α} {x : α} {v : β}, (x, v) ∈ st.zip (st.map f) → v = f x
  | [], _, _, h => by simp at h
  | s :: st, x, v, h => by
    simp only [List.map_cons, List.zip_cons_cons, List.mem_cons, Prod.mk.injEq] at h
    rcases h with ⟨rfl, rfl⟩ | h
    · rfl
    · exact zip_map f h
theorem memB_spec {t : Nat} : ∀ {l : List Nat}, memB l t = true → t ∈ l
  | [], h => by cases h
  | t' :: l, h => by
    simp only [memB, Bool.or_eq_true] at h
    rcases h with h | h
    · exact List.mem_cons.2 (.inl (by simpa using (Nat.eq_of_beq_eq_true h).symm))
    · exact List.mem_cons_of_mem _ (memB_spec h)
theorem subB_spec {ms : List Nat} : ∀ {l : List Nat}, subB l ms = true → ∀ t ∈ l, t ∈ ms
  | [], _, _, h => by cases h
  | t' :: l, h, t, ht => by
    simp only [subB, Bool.and_eq_true] at h
    rcases List.mem_cons.1 ht with rfl | ht
    · exact memB_spec h.1
    · exact subB_spec h.2 t ht
theorem headE_ext {ms st : List Nat} (vs : List Value) (e : Env) (h : ∀ t ∈ st, t ∈ ms) : Ext ms e (headE st vs ms e) := by
  intro t ht
  rcases headE_get (st := st) (vs := vs) (ms := ms) (e := e) t with h1 | ⟨u, h1, h2⟩ | ⟨h1, _⟩
  · -- not forgotten: it would be among what is written
    have : ∀ {st : List Nat} {vs : List Value}, (∀ t ∈ st, t ∈ ms) → eget (headE st vs ms e) t = eget e t := by
      intro st
      induction st with
      | nil => intro vs _; simp [headE, forget_get, ht]
      | cons s st ih =>
        intro vs hs
        cases vs with
        | nil => simp [headE, forget_get, ht]
        | cons v vs =>
          simp only [headE, eget_cons]
          rw [if_neg (fun e : s = t => ht (e ▸ hs s List.mem_cons_self))]
          exact ih (fun t h => hs t (List.mem_cons_of_mem _ h))
    exact this h
  · exact absurd (h t (List.of_mem_zip h2).1) ht
  · exact h1
/-- The frame at a loop's head. -/
theorem head_agree {e e' : Env} {a : Act} {st : List Nat} {ms : List Nat} (ag : Agree e' a) (hx : Ext ms e e') (h : ∀ t ∈ st, t ∈ ms) : Agree (headE st (st.map fun t => a.tmps.getD t undef) ms e) a := by
  intro t
  by_cases ht : t ∈ ms
  · rcases headE_get (st := st) (vs := st.map fun t => a.tmps.getD t undef) (ms := ms) (e := e) t with h1 | ⟨u, h1, h2⟩ | ⟨_, h2⟩
    · rw [h1]; trivial
    · rw [h1]
      exact (zip_map (fun t => a.tmps.getD t undef) h2).symm
    · exact absurd ht h2
  · rw [headE_ext _ e h t ht, ← hx t ht]
    exact ag t
theorem allV_spec : ∀ {k : Nat} {F : List Value → Prop}, allV k F → ∀ vs : List Value, vs.length = k → F vs
  | 0, F, h, vs, hl => by
    have : vs = [] := List.eq_nil_of_length_eq_zero hl
    subst this; exact h
  | k + 1, F, h, [], hl => by simp at hl
  | k + 1, F, h, v :: vs, hl => allV_spec (h v) vs (by simpa using hl)

/-- What the continuations say of an ending. -/
def KK.holds (k : KK) (n : Nat) (M : List Nat) (e0 : Env) : Exit → Act → World → Prop
  | .normal, a, w => ∃ e, AgreeN n e a ∧ Ext M e0 e ∧ k.nx e w
  | .ret, a, w => ∃ e, AgreeN n e a ∧ k.ret e w
  | .exit i, a, w => ∃ e, AgreeN n e a ∧ Ext M e0 e ∧ k.ex i e w
  | _, _, _ => False
theorem vc_sound : ∀ (c : Code) (k : KK) (e : Env) (a : Act) (w : World), AgreeN n e a → vc P n hs c k e w → c.wp P (k.holds n (mods c) e) a w := by
  intro c
  induction c with
  | skip => exact fun k e a w ag h => wp_skip ⟨e, ag, .refl _ _, h⟩
  | label l => exact fun k e a w ag h => wp_label ⟨e, ag, .refl _ _, h⟩
  | ret => exact fun k e a w ag h => wp_ret ⟨e, ag, h⟩
  | exit i => exact fun k e a w ag h => wp_exit ⟨e, ag, .refl _ _, h⟩
  | region id ops d =>
    intro k e a w ag h
    have hM : ∀ (j : Nat) (o' : Oper) (t : Nat), ops[j]? = some o' → o'.dst = some t → t ∈ mods (.region id ops d) := fun j o' t hj ht => dsts_mem (by simpa using Array.mem_of_getElem? hj) ht
    cases d with
    | false =>
      simp only [vc, cond_false] at h
      refine wp_region_list ?_
      exact seqW_sound (M := mods (.region id ops false)) hM (e0 := e) (fun e' a' w' ag' hx hk => ⟨e', ag', hx, hk⟩) ops.toList e a w (fun o ho t ht => dsts_mem ho ht) ag (.refl _ _) h
    | true =>
      simp only [vc, cond_true] at h
      rw [cond_eq_ite] at h
      split at h
      · rename_i hb
        simp only [Bool.and_eq_true] at hb
        rw [cond_eq_ite] at h
        split at h
        · refine wp_region_T (Q := fun a w => ∃ e', AgreeN n e' a ∧ Ext (mods (.region id ops true)) e e' ∧ k.nx e' w) hb.1 (edgesB_spec1 hb.2) (fun a w h => h) ?_
          have := drawW_T (M := mods (.region id ops true)) hM (e0 := e) (Q := fun a w => ∃ e', AgreeN n e' a ∧ Ext (mods (.region id ops true)) e e' ∧ k.nx e' w) (fun e' a' w' ag' hx hk => ⟨e', ag', hx, hk⟩) ops.toList 0 [] [] [] e a w.drew (by simp) ag (.refl _ _) (fun q hq => by cases hq) h
          rw [List.range_eq_range']
          simpa using this
        · refine wp_region_W (f := ops.size + 1) (Q := fun a w => ∃ e', AgreeN n e' a ∧ Ext (mods (.region id ops true)) e e' ∧ k.nx e' w) hb.1 (edgesB_spec hb.2) (fun a w h => h) ?_
          exact allW_W (M := mods (.region id ops true)) hM (e0 := e) (Q := fun a w => ∃ e', AgreeN n e' a ∧ Ext (mods (.region id ops true)) e e' ∧ k.nx e' w) (fun e' a' w' ag' hx hk => ⟨e', ag', hx, hk⟩) (ops.size + 1) (List.range ops.size) [] [] [] e a w.drew ag (.refl _ _) (fun q hq => by cases hq) h
      · exact h.elim
  | seq x y ihx ihy =>
    intro k e a w ag h
    refine wp_seq ?_
    refine Code.wp_mono ?_ (ihx _ e a w ag h)
    intro ex a' w' hk
    cases ex with
    | normal =>
      obtain ⟨e', ag', hx, hk⟩ := hk
      refine Code.wp_mono ?_ (ihy k e' a' w' ag' hk)
      intro ex a'' w'' hk
      have hxm : Ext (mods (.seq x y)) e e' := hx.mono fun t ht => List.mem_append.2 (.inl ht)
      cases ex with
      | normal => obtain ⟨e2, ag2, hx2, hk⟩ := hk; exact ⟨e2, ag2, hxm.trans (hx2.mono fun t ht => List.mem_append.2 (.inr ht)), hk⟩
      | ret => exact hk
      | exit i => obtain ⟨e2, ag2, hx2, hk⟩ := hk; exact ⟨e2, ag2, hxm.trans (hx2.mono fun t ht => List.mem_append.2 (.inr ht)), hk⟩
      | _ => exact hk.elim
    | ret => exact hk
    | exit i => obtain ⟨e', ag', hx, hk⟩ := hk; exact ⟨e', ag', hx.mono fun t ht => List.mem_append.2 (.inl ht), hk⟩
    | _ => exact hk.elim
  | cond c x y ihx ihy =>
    intro k e a w ag h
    simp only [vc] at h
    replace h := mO_some h; obtain ⟨v, hc, h⟩ := h
    replace h := mBool_spec h; obtain ⟨b, rfl, h⟩ := h
    refine wp_cond (oev_sound ag.1 hc) ?_
    cases b with
    | true =>
      refine Code.wp_mono ?_ (ihx k e a w ag h)
      intro ex a' w' hk
      cases ex with
      | normal => obtain ⟨e2, ag2, hx2, hk⟩ := hk; exact ⟨e2, ag2, hx2.mono fun t ht => List.mem_append.2 (.inl ht), hk⟩
      | ret => exact hk
      | exit i => obtain ⟨e2, ag2, hx2, hk⟩ := hk; exact ⟨e2, ag2, hx2.mono fun t ht => List.mem_append.2 (.inl ht), hk⟩
      | _ => exact hk.elim
    | false =>
      refine Code.wp_mono ?_ (ihy k e a w ag h)
      intro ex a' w' hk
      cases ex with
      | normal => obtain ⟨e2, ag2, hx2, hk⟩ := hk; exact ⟨e2, ag2, hx2.mono fun t ht => List.mem_append.2 (.inr ht), hk⟩
      | ret => exact hk
      | exit i => obtain ⟨e2, ag2, hx2, hk⟩ := hk; exact ⟨e2, ag2, hx2.mono fun t ht => List.mem_append.2 (.inr ht), hk⟩
      | _ => exact hk.elim
  | block id c ih =>
    intro k e a w ag h
    refine wp_block ?_
    refine Code.wp_mono ?_ (ih _ e a w ag h)
    intro ex a' w' hk
    cases ex with
    | normal => exact hk
    | ret => exact hk
    | exit i =>
      obtain ⟨e2, ag2, hx2, hk⟩ := hk
      simp only [cond_eq_ite] at hk
      simp only [Exit.inBlock]
      split
      · rename_i hi
        rw [if_pos (by simp [hi])] at hk
        exact ⟨e2, ag2, hx2, hk⟩
      · rename_i hi
        rw [if_neg (by simp [hi])] at hk
        exact ⟨e2, ag2, hx2, hk⟩
    | _ => exact hk.elim
  | loop body ih =>
    intro k e a w ag h
    simp only [vc, cond_eq_ite] at h
    split at h
    · rename_i hsub
      replace h := mO_some h; obtain ⟨vs0, hv0, I, μ, h0, hall⟩ := h
      generalize hst : look hs (firstRegion body) = st at *
      have hsub := subB_spec hsub
      refine wp_loop (fun a w => ∃ e', AgreeN n e' a ∧ Ext (mods body) e e' ∧ appP _ I (st.map fun t => a.tmps.getD t undef) w) (fun a w => appN _ μ (st.map fun t => a.tmps.getD t undef) w) ⟨e, ag, .refl _ _, by rw [egets_sound ag.1 hv0]; exact h0⟩ ?_
      rintro a w ⟨e', ag', hx', hI⟩
      have hbody := allV_spec hall (st.map fun t => a.tmps.getD t undef) (by simp) w hI
      have hag : AgreeN n (headE st (st.map fun t => a.tmps.getD t undef) (mods body) e) a := ⟨head_agree ag'.1 hx' hsub, ag'.2⟩
      have hhx : Ext (mods body) e (headE st (st.map fun t => a.tmps.getD t undef) (mods body) e) := headE_ext _ e hsub
      refine Code.wp_mono ?_ (ih _ _ a w hag hbody)
      intro ex a' w' hk
      cases ex with
      | normal =>
        obtain ⟨e2, ag2, hx2, hk⟩ := hk
        obtain ⟨vs', hv', hI', hμ⟩ := mO_some hk
        have hvs := egets_sound ag2.1 hv'
        exact ⟨⟨e2, ag2, hhx.trans hx2, by rw [hvs]; exact hI'⟩, by rw [hvs]; exact hμ⟩
      | ret => exact hk
      | exit i =>
        obtain ⟨e2, ag2, hx2, hk⟩ := hk
        exact ⟨e2, ag2, hhx.trans hx2, hk⟩
      | _ => exact hk.elim
    · exact h.elim
  | _ => exact fun k e a w ag h => h.elim
theorem resW_sound {w : World} {Q : List Value → Prop} : ∀ {l : List ResultVar} {e : Env} {a : Act}, Agree e a → resW P l e w Q →
    ∃ vs, (l.mapM fun | .tmp t => pure (a.tmps.getD t undef) | .cell c t => do loadVar t (← asAddr (a.tmps.getD c undef)) : Sem (List Value)).run P w = .ok vs w ∧ Q vs
  | [], e, a, ag, h => ⟨[], by simp, h⟩
  | .tmp t :: l, e, a, ag, h => by
    obtain ⟨v, hv, h⟩ := mO_some h
    have hg : eget e t = .val v := by cases hg : eget e t <;> rw [hg] at hv <;> simp [AV.opt] at hv; rw [hv]
    obtain ⟨vs, hr, hq⟩ := resW_sound ag h
    refine ⟨v :: vs, ?_, hq⟩
    simp only [List.mapM_cons, Sem.run_bind, ag.val hg, Sem.run_pure, Result.andThen_ok, hr]
  | .cell t ty :: l, e, a, ag, h => by
    replace h := mO_some h; obtain ⟨p, hp, h⟩ := h
    replace h := mO_some h; obtain ⟨s, hs, h⟩ := h
    replace h := mPtr_spec h; obtain ⟨ad, rfl, h⟩ := h
    have hg : eget e t = .val (.pointer (some ad)) := by cases hg : eget e t <;> rw [hg] at hp <;> simp [AV.opt] at hp; rw [hp]
    have fin : ∀ {v : Value}, (Instr.loadAt ty (.pointer (some ad))).run P w = .ok v w → (loadVar ty ad).run P w = .ok v w := by
      intro v hv; simpa [Instr.loadAt, Instr.sureAddr] using hv
    have hA : (asAddr (.pointer (some ad))).run P w = .ok ad w := rfl
    cases s with
    | none =>
      obtain ⟨v, hv, h⟩ := mO_some h
      obtain ⟨vs, hr, hq⟩ := resW_sound ag h
      refine ⟨v :: vs, ?_, hq⟩
      simp only [List.mapM_cons, Sem.run_bind, ag.val hg, hA, Sem.run_pure, Result.andThen_ok, fin (run_loadAt1 hs hv), hr]
    | some m =>
      obtain ⟨cs, hc, h⟩ := mO_some h
      obtain ⟨vs, hr, hq⟩ := resW_sound ag h
      refine ⟨.agg cs.toArray :: vs, ?_, hq⟩
      simp only [List.mapM_cons, Sem.run_bind, ag.val hg, hA, Sem.run_pure, Result.andThen_ok, fin (run_loadAtN hs hc), hr]
theorem results_sound {fn : Func} {e : Env} {a : Act} {w : World} {Q : Value → Prop} (ag : Agree e a) (h : resW P fn.results.toList e w fun vs => Q (retV vs)) : ∃ v, (results fn a.tmps).run P w = .ok v w ∧ Q v := by
  obtain ⟨vs, hr, hq⟩ := resW_sound ag h
  refine ⟨_, ?_, hq⟩
  unfold results
  rw [Array.mapM_eq_mapM_toList]
  simp only [Sem.run_bind, Sem.run_map, Sem.run_pure]
  refine (congrArg (fun r => ((r.andThen fun (a : List Value) w' => Result.ok a.toArray w').andThen fun a w' => Result.ok (if h : a.size = 1 then a[0] else Value.tuple a) w')) hr).trans ?_
  match vs with
  | [] => rfl
  | [v] => rfl
  | v :: u :: vs => simp [retV]
theorem env0_get : ∀ (vs : List Value) (i t : Nat), eget (env0 vs i) t = if i ≤ t then (match vs[t - i]? with | some v => .val v | none => .unk) else .unk
  | [], i, t => by simp [env0, eget]
  | v :: vs, i, t => by
    simp only [env0, eget_cons, env0_get vs (i + 1) t]
    by_cases h : i = t
    · subst h; simp
    · simp only [h, if_false]
      by_cases h2 : i + 1 ≤ t
      · rw [if_pos h2, if_pos (by omega)]
        have : t - i = (t - (i + 1)) + 1 := by omega
        rw [this]; simp
      · rw [if_neg h2]
        split
        · omega
        · rfl
/-- **A function whose verification condition holds meets its contract.** -/
theorem sound {f : FuncId} {fn : Func} {c : Code} (hs : List (Nat × List Nat)) (hf : P.funcs[f]? = some fn) (hb : fn.body = some c) (hc : callable P f = true) {args : List Value} (hn : Nat.ble args.length fn.ntmps = true) {w : World} {Q : Value → World → Prop}
    (h : fnVC P fn hs c args w Q) : Meets P f args.toArray w Q := by
  refine ⟨hc, calls_of_wp hf hb ?_⟩
  have hn := Nat.le_of_ble_eq_true hn
  have ag : AgreeN fn.ntmps (env0 args 0) { tmps := args.toArray ++ Array.replicate (fn.ntmps - args.toArray.size) undef, defers := [] } := by
    refine ⟨fun t => ?_, by simp; omega, rfl⟩
    rw [env0_get]
    simp only [Nat.zero_le, if_true, Nat.sub_zero]
    cases ht : args[t]? with
    | none => trivial
    | some v =>
      have hlt : t < args.length := (List.getElem?_eq_some_iff.1 ht).1
      have hv : args[t] = v := by simpa [hlt] using ht
      simp [Array.getElem?_append, hlt, hv]
  refine Code.wp_mono ?_ (vc_sound c _ _ _ w ag h)
  intro ex a' w' hk
  cases ex with
  | normal =>
    obtain ⟨e, ag, _, hk⟩ := hk
    obtain ⟨v, hr, hq⟩ := results_sound (fn := fn) (Q := fun v => Q v w') ag.1 hk
    exact ⟨ag.2.2, v, hr, v, rfl, hq⟩
  | ret =>
    obtain ⟨e, ag, hk⟩ := hk
    obtain ⟨v, hr, hq⟩ := results_sound (fn := fn) (Q := fun v => Q v w') ag.1 hk
    exact ⟨ag.2.2, v, hr, v, rfl, hq⟩
  | exit i => obtain ⟨_, _, _, hk⟩ := hk; exact hk.elim
  | _ => exact hk.elim
end
end Go.Ev
