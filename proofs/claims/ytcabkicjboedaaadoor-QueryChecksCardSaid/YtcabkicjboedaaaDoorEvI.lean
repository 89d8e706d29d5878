import Derived.Test.YtcabkicjboedaaaDoorEvH
namespace Go.Ev
open Go
def AgreeN (n : Nat) (e : Env) (a : Act) : Prop := Agree e a ∧ a.tmps.size = n ∧ a.defers = []
def Ext (M : List Nat) (e e' : Env) : Prop := ∀ t, t ∉ M → eget e' t = eget e t
theorem Ext.refl (M : List Nat) (e : Env) : Ext M e e := fun _ _ => rfl
theorem Ext.trans {M : List Nat} {e e' e'' : Env} (h : Ext M e e') (h' : Ext M e' e'') : Ext M e e'' := fun t ht => (h' t ht).trans (h t ht)
theorem Ext.mono {M M' : List Nat} {e e' : Env} (h : Ext M e e') (hm : ∀ t ∈ M, t ∈ M') : Ext M' e e' := fun t ht => h t fun hh => ht (hm t hh)
theorem eget_cons (t' : Nat) (v : AV) (e : Env) (t : Nat) : eget ((t', v) :: e) t = if t' = t then v else eget e t := by
  simp only [eget, cond_eq_ite]
  by_cases h : t' = t <;> simp [h]
theorem Ext.cons {M : List Nat} {e : Env} {t : Nat} {v : AV} (ht : t ∈ M) : Ext M e ((t, v) :: e) := fun t' ht' => by
  rw [eget_cons]
  rw [if_neg (fun h : t = t' => ht' (h ▸ ht))]
def AV.fits (v : AV) (u : Value) : Prop := match v with
  | .unk => True
  | .und => u = undef
  | .val x => u = x
theorem Agree.put {e : Env} {a : Act} (h : Agree e a) {t : Nat} (ht : t < a.tmps.size) {v : AV} {u : Value} (hv : v.fits u) : Agree ((t, v) :: e) (a.put (some t) u) := by
  intro t'
  rw [eget_cons]
  by_cases he : t = t'
  · subst he
    simp only [if_true]
    have : (a.put (some t) u).tmps.getD t undef = u := by simp [Act.put, ht]
    cases v <;> simp only [AV.fits] at hv <;> simp only [this] <;> first | trivial | exact hv
  · simp only [he, if_false]
    have := h t'
    have hg : (a.put (some t) u).tmps.getD t' undef = a.tmps.getD t' undef := by simp [Act.put, Array.getElem?_setIfInBounds_ne he]
    rw [hg]; exact this
theorem AgreeN.dput {n : Nat} {e : Env} {a : Act} (h : AgreeN n e a) {d : Option Tmp} {v : AV} {u : Value} (hv : v.fits u) {K : Env → Prop} {M : List Nat} (hd : ∀ t, d = some t → t ∈ M) (hk : dputW n d v e K) :
    ∃ e', AgreeN n e' (a.put d u) ∧ Ext M e e' ∧ K e' := by
  cases d with
  | none => exact ⟨e, h, .refl _ _, hk⟩
  | some t =>
    simp only [dputW, cond_eq_ite] at hk
    split at hk
    · rename_i hlt
      have hlt : t < n := by simpa [Nat.blt_eq] using hlt
      refine ⟨_, ⟨h.1.put (by rw [h.2.1]; exact hlt) hv, by simp [Act.put, h.2.1], h.2.2⟩, .cons (hd t rfl), hk⟩
    · exact hk.elim
theorem yielded_of {ops : Array Oper} {a : Act} {j t : Nat} (hj : (ops[j]?).bind (·.dst) = some t) : yielded ops a.tmps j = match a.tmps.getD t undef with
    | .bool b => some b
    | _ => none := by
  unfold yielded
  rw [hj]
  simp only [Option.bind_some]
  cases ht : a.tmps[t]? with
  | none => simp [ht, undef]
  | some v => simp [ht]; cases v <;> rfl
theorem guardW_spec {ops : Array Oper} {o : Oper} {n : Nat} {e : Env} {a : Act} {X Y : Env → Prop} {M : List Nat} (ag : AgreeN n e a) (hM : ∀ (j : Nat) (o' : Oper) (t : Nat), ops[j]? = some o' → o'.dst = some t → t ∈ M) (h : guardW ops o e X Y) :
    (Region.wanted o (yielded ops a.tmps) = true ∧ ∃ e', AgreeN n e' a ∧ Ext M e e' ∧ X e') ∨ (Region.wanted o (yielded ops a.tmps) = false ∧ ∃ e', AgreeN n e' a ∧ Ext M e e' ∧ Y e') := by
  unfold guardW at h
  split at h
  · rename_i hg
    exact .inl ⟨by simp [Region.wanted, hg], e, ag, .refl _ _, h⟩
  · rename_i j want hg
    split at h
    · exact h.elim
    · rename_i t ht
      have htM : t ∈ M := by
        cases hj : ops[j]? with
        | none => simp [hj] at ht
        | some o' => rw [hj] at ht; exact hM j o' t hj (by simpa using ht)
      have hy := yielded_of (a := a) ht
      have hag := ag.1 t
      split at h
      · exact h.elim
      · rename_i hu
        rw [hu] at hag
        simp only [] at hag
        rw [hag] at hy
        simp only [undef] at hy
        exact .inr ⟨by simp [Region.wanted, hg, hy], e, ag, .refl _ _, h⟩
      · rename_i v hv
        rw [hv] at hag
        simp only [] at hag
        replace h := mBool_spec h; obtain ⟨b, rfl, h⟩ := h
        rw [hag] at hy
        simp only [] at hy
        have key : ∀ c : Bool, c = b → Agree ((t, .val (.bool c)) :: e) a := by
          intro c hc t'
          rw [eget_cons]
          by_cases he : t = t'
          · subst he; subst hc; simp only [if_true]; exact hag
          · simp only [he, if_false]; exact ag.1 t'
        unfold condP at h
        by_cases hb : b = want
        · subst hb
          have : (bif b then b else !b) = true := by cases b <;> rfl
          rw [this] at h
          exact .inl ⟨by simp [Region.wanted, hg, hy], _, ⟨key _ rfl, ag.2⟩, .cons htM, h⟩
        · have : (bif want then b else !b) = false := by cases b <;> cases want <;> first | rfl | exact absurd rfl hb
          rw [this] at h
          have hnb : (!want) = b := by cases b <;> cases want <;> first | rfl | exact absurd rfl hb
          exact .inr ⟨by simp [Region.wanted, hg, hy, hb], _, ⟨key _ hnb, ag.2⟩, .cons htM, h⟩
theorem dsts_mem : ∀ {l : List Oper} {o : Oper} {t : Nat}, o ∈ l → o.dst = some t → t ∈ dsts l
  | [], _, _, h, _ => by cases h
  | o' :: l, o, t, h, ht => by
    rcases List.mem_cons.1 h with rfl | h
    · simp [dsts, ht]
    · have := dsts_mem h ht
      unfold dsts
      split
      · exact this
      · exact List.mem_cons_of_mem _ this
section
variable {P : Program} {n : Nat}
theorem seqW_sound {ops : Array Oper} {M : List Nat} {K : Env → World → Prop} {Q : Exit → Act → World → Prop} (hM : ∀ (j : Nat) (o' : Oper) (t : Nat), ops[j]? = some o' → o'.dst = some t → t ∈ M) {e0 : Env}
    (hQ : ∀ e a w, AgreeN n e a → Ext M e0 e → K e w → Q .normal a w) : ∀ (l : List Oper) (e : Env) (a : Act) (w : World), (∀ o ∈ l, ∀ t, o.dst = some t → t ∈ M) → AgreeN n e a → Ext M e0 e → seqW P n ops K l e w → wpList P ops Q l a w
  | [], e, a, w, _, ag, hx, h => hQ e a w ag hx h
  | o :: l, e, a, w, hl, ag, hx, h => by
    have hd := hl o List.mem_cons_self
    have hl' : ∀ o ∈ l, ∀ t, o.dst = some t → t ∈ M := fun o ho => hl o (List.mem_cons_of_mem _ ho)
    unfold wpList
    rcases guardW_spec ag hM h with ⟨hw, e', ag', hx', h⟩ | ⟨hw, e', ag', hx', h⟩
    · rw [if_pos hw]
      refine .inl (Oper.wp_mono ?_ ((opW_eff ag'.1 h).wp (Q := Q)))
      rintro a' w' ⟨v, rfl, hk⟩
      obtain ⟨e2, ag2, hx2, hk⟩ := ag'.dput (v := .val v) (u := v) rfl hd hk
      exact seqW_sound hM hQ l e2 _ w' hl' ag2 ((hx.trans hx').trans hx2) hk
    · rw [if_neg (by simp [hw])]
      obtain ⟨e2, ag2, hx2, hk⟩ := ag'.dput (v := .und) (u := undef) rfl hd h
      exact seqW_sound hM hQ l e2 _ w hl' ag2 ((hx.trans hx').trans hx2) hk

theorem cls_pure {op : Op} (h : cls P op = .pure) : pureOp P op = true := by
  unfold cls at h; cases hp : pureOp P op
  · simp [hp] at h; cases hr : readOp op <;> simp [hr] at h
  · rfl
theorem valOp_of_pure {op : Op} (h : pureOp P op = true) : valOp op = true := by
  cases op <;> simp [pureOp] at h <;> simp [valOp]
  rename_i c
  cases hc : c.callee <;> simp [hc] at h ⊢
theorem cls_read {op : Op} (h : cls P op = .read) : readOp op = true := by
  unfold cls at h; cases hp : pureOp P op
  · simp [hp] at h; cases hr : readOp op
    · simp [hr] at h
    · rfl
  · simp [hp] at h
theorem valOp_of_read {op : Op} (h : readOp op = true) : valOp op = true := by
  cases op <;> simp [readOp] at h <;> simp [valOp]
  rename_i c
  cases hc : c.callee <;> simp [hc] at h ⊢
theorem pastW_spec {e : Env} {ty : TypeId} {op : Op} {v : Value} {m : Nat} {K : Prop} : ∀ {past : Past}, pastW P e ty op v m past K → (∀ x ∈ past, Nat.testBit m x.1 = false → opW P e ty (fun v' w'' => v' = v ∧ w'' = x.2) x.2 op) ∧ K
  | [], h => ⟨fun _ hx => (by cases hx), h⟩
  | (j, W) :: r, h => by
    simp only [pastW, cond_eq_ite] at h
    split at h
    · rename_i hb
      obtain ⟨h1, h2⟩ := pastW_spec h
      refine ⟨fun x hx hxb => ?_, h2⟩
      rcases List.mem_cons.1 hx with hx | hx
      · subst hx; rw [hb] at hxb; cases hxb
      · exact h1 x hx hxb
    · obtain ⟨h1, h2⟩ := pastW_spec h.2
      refine ⟨fun x hx hxb => ?_, h2⟩
      rcases List.mem_cons.1 hx with rfl | hx
      · exact h.1
      · exact h1 x hx hxb
theorem pendW_spec {m : Nat} {w' : World} {K : Prop} : ∀ {pend : Pend}, pendW m w' pend K → (∀ q ∈ pend, Nat.testBit m q.1 = false → q.2 w') ∧ K
  | [], h => ⟨fun _ hx => (by cases hx), h⟩
  | (j, W) :: r, h => by
    simp only [pendW, cond_eq_ite] at h
    split at h
    · rename_i hb
      obtain ⟨h1, h2⟩ := pendW_spec h
      refine ⟨fun x hx hxb => ?_, h2⟩
      rcases List.mem_cons.1 hx with hx | hx
      · subst hx; rw [hb] at hxb; cases hxb
      · exact h1 x hx hxb
    · obtain ⟨h1, h2⟩ := pendW_spec h.2
      refine ⟨fun x hx hxb => ?_, h2⟩
      rcases List.mem_cons.1 hx with rfl | hx
      · exact h.1
      · exact h1 x hx hxb
theorem behind_spec {m : Nat} : ∀ {past : Past}, behind m past = true → ∀ x ∈ past, Nat.testBit m x.1 = true
  | [], _, _, hx => by cases hx
  | (j, W) :: r, h, x, hx => by
    simp only [behind, Bool.and_eq_true] at h
    rcases List.mem_cons.1 hx with rfl | hx
    · exact h.1
    · exact behind_spec h.2 x hx
/-- The obligations at the level of environments hold at the level of frames. -/
def PendOk (pend pend' : Pend) : Prop := ∀ q ∈ pend', ∃ ob, (q.1, ob) ∈ pend ∧ ∀ W, ob W → q.2 W
theorem drawW_T {ops : Array Oper} {ms : List Nat} {M : List Nat} {K : Env → World → Prop} {Q : Act → World → Prop} (hM : ∀ (j : Nat) (o' : Oper) (t : Nat), ops[j]? = some o' → o'.dst = some t → t ∈ M) {e0 : Env}
    (hQ : ∀ e a w, AgreeN n e a → Ext M e0 e → K e w → Q a w) : ∀ (l : List Oper) (i : Nat) (pend pend' : Pend) (past : Past) (e : Env) (a : Act) (w : World), (∀ j, l[j]? = ops[i + j]?) → AgreeN n e a → Ext M e0 e → PendOk pend pend' →
    drawW P n ops ms K l i pend past e w → T P ops (fun i k => Nat.testBit (ms.getD i 0) k) Q (List.range' i l.length) pend' past a w
  | [], i, pend, pend', past, e, a, w, _, ag, hx, _, h => hQ e a w ag hx h
  | o :: l, i, pend, pend', past, e, a, w, hl, ag, hx, hp, h => by
    have h0 : ops[i]? = some o := by simpa using (hl 0).symm
    have hd : ∀ t, o.dst = some t → t ∈ M := fun t ht => hM i o t h0 ht
    have hl' : ∀ j, l[j]? = ops[i + 1 + j]? := fun j => by have := hl (j + 1); simpa [Nat.add_assoc, Nat.add_comm 1 j] using this
    simp only [List.length_cons, List.range'_succ, T, h0]
    rcases guardW_spec ag hM h with ⟨hw, e', ag', hx', h⟩ | ⟨hw, e', ag', hx', h⟩
    · rw [if_pos hw]
      cases hc : cls P o.op
      · simp only [hc] at h
        obtain ⟨v, w', hr, hk, hall⟩ := opW_val ag'.1 (valOp_of_pure (cls_pure hc)) h
        obtain ⟨hall', rfl⟩ := hall (cls_pure hc)
        obtain ⟨e2, ag2, hx2, hk⟩ := ag'.dput (v := .val v) (u := v) rfl hd hk
        exact ⟨v, hall', drawW_T hM hQ l (i + 1) pend pend' past e2 _ _ hl' ag2 ((hx.trans hx').trans hx2) hp hk⟩
      · simp only [hc] at h
        obtain ⟨v, w', hr, ⟨rfl, hk⟩, _⟩ := opW_val ag'.1 (valOp_of_read (cls_read hc)) h
        obtain ⟨hpast, hk⟩ := pastW_spec hk
        obtain ⟨e2, ag2, hx2, hk⟩ := ag'.dput (v := .val v) (u := v) rfl hd hk
        have conv : ∀ W, opW P e' o.type (fun v' w'' => v' = v ∧ w'' = W) W o.op → (execOp a.eval o).run P W = .ok (.value v) W := by
          intro W hW
          obtain ⟨v', w'', hr', ⟨rfl, rfl⟩, _⟩ := opW_val ag'.1 (valOp_of_read (cls_read hc)) hW
          exact hr'
        refine ⟨v, hr, fun x hx hxa => conv _ (hpast x hx hxa), drawW_T hM hQ l (i + 1) _ _ past e2 _ _ hl' ag2 ((hx.trans hx').trans hx2) ?_ hk⟩
        intro q hq
        rcases List.mem_cons.1 hq with rfl | hq
        · exact ⟨_, List.mem_cons_self, conv⟩
        · obtain ⟨ob, h1, h2⟩ := hp q hq
          exact ⟨ob, List.mem_cons_of_mem _ h1, h2⟩
      · simp only [hc, cond_eq_ite] at h
        split at h
        · rename_i hb
          refine ⟨behind_spec hb, (opW_eff ag'.1 h).mono fun v w' hk => ?_⟩
          obtain ⟨hpend, hk⟩ := pendW_spec hk
          obtain ⟨e2, ag2, hx2, hk⟩ := ag'.dput (v := .val v) (u := v) rfl hd hk
          refine ⟨fun q hq hqa => ?_, drawW_T hM hQ l (i + 1) pend pend' _ e2 _ _ hl' ag2 ((hx.trans hx').trans hx2) hp hk⟩
          obtain ⟨ob, h1, h2⟩ := hp q hq
          exact h2 _ (hpend _ h1 hqa)
        · exact h.elim
    · rw [if_neg (by simp [hw])]
      obtain ⟨e2, ag2, hx2, hk⟩ := ag'.dput (v := .und) (u := undef) rfl hd h
      exact drawW_T hM hQ l (i + 1) pend pend' past e2 _ _ hl' ag2 ((hx.trans hx').trans hx2) hp hk
theorem runQ_Tq {ops : Array Oper} {ms : List Nat} {M : List Nat} {past : Past} {w : World} (hM : ∀ (j : Nat) (o' : Oper) (t : Nat), ops[j]? = some o' → o'.dst = some t → t ∈ M) {e0 : Env} : ∀ (l : List Nat) {K : Pend → Env → Prop} {D : Pend → Act → Prop} {pend pend' : Pend} {e : Env} {a : Act},
    (∀ pend pend' e a, AgreeN n e a → Ext M e0 e → PendOk pend pend' → K pend e → D pend' a) → AgreeN n e a → Ext M e0 e → PendOk pend pend' → runQ P n ops ms past w l K pend e → Tq P ops (fun i k => Nat.testBit (ms.getD i 0) k) past w l D pend' a
  | [], K, D, pend, pend', e, a, hK, ag, hx, hp, h => hK _ _ _ _ ag hx hp h
  | i :: l, K, D, pend, pend', e, a, hK, ag, hx, hp, h => by
    simp only [runQ] at h
    simp only [Tq, quietStep]
    cases ho : ops[i]? with
    | none => simp [ho] at h
    | some o =>
      simp only [ho] at h ⊢
      have hd : ∀ t, o.dst = some t → t ∈ M := fun t ht => hM i o t ho ht
      rcases guardW_spec ag hM h with ⟨hw, e', ag', hx', h⟩ | ⟨hw, e', ag', hx', h⟩
      · rw [if_pos hw]
        cases hc : cls P o.op
        · simp only [hc] at h ⊢
          obtain ⟨v, w', hr, hk, hall⟩ := opW_val ag'.1 (valOp_of_pure (cls_pure hc)) h
          obtain ⟨hall', rfl⟩ := hall (cls_pure hc)
          obtain ⟨e2, ag2, hx2, hk⟩ := ag'.dput (v := .val v) (u := v) rfl hd hk
          exact ⟨v, hall', runQ_Tq hM l hK ag2 ((hx.trans hx').trans hx2) hp hk⟩
        · simp only [hc] at h ⊢
          obtain ⟨v, w', hr, ⟨rfl, hk⟩, _⟩ := opW_val ag'.1 (valOp_of_read (cls_read hc)) h
          obtain ⟨hpast, hk⟩ := pastW_spec hk
          obtain ⟨e2, ag2, hx2, hk⟩ := ag'.dput (v := .val v) (u := v) rfl hd hk
          have conv : ∀ W, opW P e' o.type (fun v' w'' => v' = v ∧ w'' = W) W o.op → (execOp a.eval o).run P W = .ok (.value v) W := by
            intro W hW
            obtain ⟨v', w'', hr', ⟨rfl, rfl⟩, _⟩ := opW_val ag'.1 (valOp_of_read (cls_read hc)) hW
            exact hr'
          refine ⟨v, hr, fun x hx hxa => conv _ (hpast x hx hxa), runQ_Tq hM l hK ag2 ((hx.trans hx').trans hx2) ?_ hk⟩
          intro q hq
          rcases List.mem_cons.1 hq with rfl | hq
          · exact ⟨_, List.mem_cons_self, conv⟩
          · obtain ⟨ob, h1, h2⟩ := hp q hq
            exact ⟨ob, List.mem_cons_of_mem _ h1, h2⟩
        · simp only [hc] at h
      · rw [if_neg (by simp [hw])]
        obtain ⟨e2, ag2, hx2, hk⟩ := ag'.dput (v := .und) (u := undef) rfl hd h
        exact runQ_Tq hM l hK ag2 ((hx.trans hx').trans hx2) hp hk
theorem stepE_eff {ops : Array Oper} {ms : List Nat} {M : List Nat} (hM : ∀ (j : Nat) (o' : Oper) (t : Nat), ops[j]? = some o' → o'.dst = some t → t ∈ M) {e0 : Env} {i : Nat} {K : Pend → Past → Env → World → Prop} {D : Pend → Past → Act → World → Prop} {pend pend' : Pend} {past : Past} {e : Env} {a : Act} {w : World}
    (hK : ∀ past e a w, AgreeN n e a → Ext M e0 e → K pend past e w → D pend' past a w) (ag : AgreeN n e a) (hx : Ext M e0 e) (hp : PendOk pend pend') (h : stepE P n ops ms i K pend past e w) : effStep P ops (fun i k => Nat.testBit (ms.getD i 0) k) i D pend' past a w := by
  unfold stepE at h
  unfold effStep
  cases ho : ops[i]? with
  | none => simp [ho] at h
  | some o =>
    simp only [ho] at h ⊢
    have hd : ∀ t, o.dst = some t → t ∈ M := fun t ht => hM i o t ho ht
    rcases guardW_spec ag hM h with ⟨hw, e', ag', hx', h⟩ | ⟨hw, e', ag', hx', h⟩
    · rw [if_pos hw]
      refine (opW_eff ag'.1 h).mono fun v w' hk => ?_
      obtain ⟨hpend, hk⟩ := pendW_spec hk
      obtain ⟨e2, ag2, hx2, hk⟩ := ag'.dput (v := .val v) (u := v) rfl hd hk
      refine ⟨fun q hq hqa => ?_, hK _ _ _ _ ag2 ((hx.trans hx').trans hx2) hk⟩
      obtain ⟨ob, h1, h2⟩ := hp q hq
      exact h2 _ (hpend _ h1 hqa)
    · rw [if_neg (by simp [hw])]
      obtain ⟨e2, ag2, hx2, hk⟩ := ag'.dput (v := .und) (u := undef) rfl hd h
      exact hK _ _ _ _ ag2 ((hx.trans hx').trans hx2) hk
theorem andW_spec : ∀ {l : List Nat} {F : Nat → Prop}, andW l F → ∀ i ∈ l, F i
  | [], _, _, _, hi => by cases hi
  | [j], F, h, i, hi => by simp at hi; subst hi; exact h
  | j :: k :: l, F, h, i, hi => by
    rcases List.mem_cons.1 hi with rfl | hi
    · exact h.1
    · exact andW_spec h.2 i hi
theorem allW_W {ops : Array Oper} {ms : List Nat} {M : List Nat} {K : Env → World → Prop} {Q : Act → World → Prop} (hM : ∀ (j : Nat) (o' : Oper) (t : Nat), ops[j]? = some o' → o'.dst = some t → t ∈ M) {e0 : Env}
    (hQ : ∀ e a w, AgreeN n e a → Ext M e0 e → K e w → Q a w) : ∀ (f : Nat) (l : List Nat) (pend pend' : Pend) (past : Past) (e : Env) (a : Act) (w : World), AgreeN n e a → Ext M e0 e → PendOk pend pend' →
    allW P n ops ms K f l pend past e w → W P ops (fun i k => Nat.testBit (ms.getD i 0) k) Q f l pend' past a w
  | 0, _, _, _, _, _, _, _, _, _, _, h => h
  | f + 1, l, pend, pend', past, e, a, w, ag, hx, hp, h => by
    rw [allW, cond_eq_ite] at h
    rw [W]
    split
    · rename_i hc
      rw [if_pos hc] at h
      exact runQ_Tq hM l (fun _ _ e a ag hx _ hk => hQ e a w ag hx hk) ag hx hp h
    · rename_i hc
      rw [if_neg hc] at h
      intro i hi hei hen
      have hie : i ∈ enabledW P ops ms l := by
        refine List.mem_filter.2 ⟨hi, ?_⟩
        rw [hei, Bool.true_and, List.all_eq_true]
        intro k hk
        cases hb : Nat.testBit (ms.getD i 0) k with
        | false => rfl
        | true => rw [hen k hk hb]; rfl
      refine runQ_Tq hM _ (fun p p' e a ag hx hp hk => ?_) ag hx hp (andW_spec h i hie)
      exact stepE_eff hM (fun past e a w ag hx hk => allW_W hM hQ f _ _ _ _ e a w ag hx hp hk) ag hx hp hk
end
end Go.Ev
