import Derived.Test.YtcabkicjboedaaaDoorEvG
namespace Go.Ev
open Go
/-! ### Regions some of whose effects have no order among themselves: every order of the effects is asked; what only reads is taken as it comes. -/
section
variable {P : Program}
def isEff (P : Program) (ops : Array Oper) (i : Nat) : Bool := match ops[i]? with
  | none => false
  | some o => match cls P o.op with
    | .eff => true
    | _ => false
def quietStep (P : Program) (ops : Array Oper) (anc : Nat → Nat → Bool) (past : Past) (w : World) (i : Nat) (D : Pend → Act → Prop) (pend : Pend) (a : Act) : Prop := match ops[i]? with
  | none => False
  | some o => if Region.wanted o (yielded ops a.tmps) = true then
      match cls P o.op with
      | .pure => ∃ v, (∀ w1, (execOp a.eval o).run P w1 = .ok (.value v) w1) ∧ D pend (a.put o.dst v)
      | .read => ∃ v, (execOp a.eval o).run P w = .ok (.value v) w ∧ (∀ x ∈ past, anc i x.1 = false → (execOp a.eval o).run P x.2 = .ok (.value v) x.2) ∧
          D ((i, fun W => (execOp a.eval o).run P W = .ok (.value v) W) :: pend) (a.put o.dst v)
      | .eff => False
    else D pend (a.put o.dst undef)
def Tq (P : Program) (ops : Array Oper) (anc : Nat → Nat → Bool) (past : Past) (w : World) : List Nat → (Pend → Act → Prop) → Pend → Act → Prop
  | [], D, pend, a => D pend a
  | i :: l, D, pend, a => quietStep P ops anc past w i (fun pend a => Tq P ops anc past w l D pend a) pend a
def effStep (P : Program) (ops : Array Oper) (anc : Nat → Nat → Bool) (i : Nat) (D : Pend → Past → Act → World → Prop) (pend : Pend) (past : Past) (a : Act) (w : World) : Prop := match ops[i]? with
  | none => False
  | some o => if Region.wanted o (yielded ops a.tmps) = true then
      EffOp P (execOp a.eval o) w fun v w' => (∀ q ∈ pend, anc i q.1 = false → q.2 w') ∧ D pend ((i, w) :: past) (a.put o.dst v) w'
    else D pend past (a.put o.dst undef) w
def W (P : Program) (ops : Array Oper) (anc : Nat → Nat → Bool) (Q : Act → World → Prop) : Nat → List Nat → Pend → Past → Act → World → Prop
  | 0, _, _, _, _, _ => False
  | f + 1, l, pend, past, a, w =>
    if (l.all fun i => !isEff P ops i) = true then Tq P ops anc past w l (fun _ a => Q a w) pend a
    else ∀ i ∈ l, isEff P ops i = true → (∀ k ∈ l, anc i k = true → isEff P ops k = false) →
      Tq P ops anc past w (l.filter fun k => anc i k) (fun pend a => effStep P ops anc i (fun pend past a w => W P ops anc Q f (l.filter fun k => !anc i k && k != i) pend past a w) pend past a w) pend a
variable {ops : Array Oper} {anc : Nat → Nat → Bool} {Q : Act → World → Prop}
def PM (D : Pend → Act → Prop) : Prop := ∀ pend pend' a, (∀ x ∈ pend', x ∈ pend) → D pend a → D pend' a
theorem quietStep.mono {past : Past} {w : World} {i : Nat} {D D' : Pend → Act → Prop} {pend : Pend} {a : Act} (h : quietStep P ops anc past w i D pend a) (hd : ∀ pend a, D pend a → D' pend a) : quietStep P ops anc past w i D' pend a := by
  unfold quietStep at *
  cases ho : ops[i]? with
  | none => simp [ho] at h
  | some o =>
    simp only [ho] at h ⊢
    split
    · rename_i hw
      simp only [hw, if_true] at h
      cases hc : cls P o.op <;> simp only [hc] at h ⊢
      · obtain ⟨v, hv, h⟩ := h; exact ⟨v, hv, hd _ _ h⟩
      · obtain ⟨v, hv, hp, h⟩ := h; exact ⟨v, hv, hp, hd _ _ h⟩
    · rename_i hw
      simp only [hw] at h
      exact hd _ _ h
theorem quietStep.pm {past : Past} {w : World} {i : Nat} {D : Pend → Act → Prop} (hd : PM D) : PM (quietStep P ops anc past w i D) := by
  intro pend pend' a hs h
  unfold quietStep at *
  cases ho : ops[i]? with
  | none => simp [ho] at h
  | some o =>
    simp only [ho] at h ⊢
    split
    · rename_i hw
      simp only [hw, if_true] at h
      cases hc : cls P o.op <;> simp only [hc] at h ⊢
      · obtain ⟨v, hv, h⟩ := h; exact ⟨v, hv, hd _ _ _ hs h⟩
      · obtain ⟨v, hv, hp, h⟩ := h
        refine ⟨v, hv, hp, hd _ _ _ ?_ h⟩
        intro x hx
        rcases List.mem_cons.1 hx with hx | hx
        · exact List.mem_cons.2 (.inl hx)
        · exact List.mem_cons_of_mem _ (hs x hx)
    · rename_i hw
      simp only [hw] at h
      exact hd _ _ _ hs h
theorem Tq.mono {past : Past} {w : World} : ∀ {l : List Nat} {D D' : Pend → Act → Prop} {pend : Pend} {a : Act}, Tq P ops anc past w l D pend a → (∀ pend a, D pend a → D' pend a) → Tq P ops anc past w l D' pend a
  | [], _, _, _, _, h, hd => hd _ _ h
  | _ :: _, _, _, _, _, h, hd => quietStep.mono h fun _ _ h => Tq.mono h hd
theorem Tq.pm {past : Past} {w : World} : ∀ {l : List Nat} {D : Pend → Act → Prop}, PM D → PM (Tq P ops anc past w l D)
  | [], _, hd => hd
  | _ :: l, _, hd => quietStep.pm (Tq.pm (l := l) hd)
theorem effStep.mono {i : Nat} {D D' : Pend → Past → Act → World → Prop} {pend pend' : Pend} {past : Past} {a : Act} {w : World} (h : effStep P ops anc i D pend past a w) (hs : ∀ x ∈ pend', x ∈ pend) (hd : ∀ past a w, D pend past a w → D' pend' past a w) : effStep P ops anc i D' pend' past a w := by
  unfold effStep at *
  cases ho : ops[i]? with
  | none => simp [ho] at h
  | some o =>
    simp only [ho] at h ⊢
    split
    · rename_i hw
      simp only [hw, if_true] at h
      exact h.mono fun v w' ⟨h1, h2⟩ => ⟨fun q hq => h1 q (hs q hq), hd _ _ _ h2⟩
    · rename_i hw
      simp only [hw] at h
      exact hd _ _ _ h
theorem W.pm : ∀ (f : Nat) {l : List Nat} {pend pend' : Pend} {past : Past} {a : Act} {w : World}, (∀ x ∈ pend', x ∈ pend) → W P ops anc Q f l pend past a w → W P ops anc Q f l pend' past a w
  | 0, _, _, _, _, _, _, _, h => h
  | f + 1, l, pend, pend', past, a, w, hs, h => by
    rw [W] at h ⊢
    split
    · rename_i hc
      rw [if_pos hc] at h
      exact Tq.pm (D := fun _ a => Q a w) (fun _ _ _ _ h => h) _ _ _ hs h
    · rename_i hc
      rw [if_neg hc] at h
      intro i hi he hk
      have hpm : PM fun pend a => effStep P ops anc i (fun pend past a w => W P ops anc Q f (l.filter fun k => !anc i k && k != i) pend past a w) pend past a w :=
        fun p p' a hs h => effStep.mono h hs fun past a w h => W.pm f hs h
      exact Tq.pm hpm _ _ _ hs (h i hi he hk)
/-- Two operations that only read may change places. -/
theorem qswap (he : ∀ (j : Nat) (o : Oper) cs b, ops[j]? = some o → o.op ≠ .select cs b) {past : Past} {w : World} {k j : Nat} (hap : ∀ ok oj, ops[k]? = some ok → ops[j]? = some oj → ok.apart ops oj = true) {D : Pend → Act → Prop} (hd : PM D) {pend : Pend} {a : Act}
    (h : quietStep P ops anc past w k (quietStep P ops anc past w j D) pend a) : quietStep P ops anc past w j (quietStep P ops anc past w k D) pend a := by
  unfold quietStep at *
  cases hok : ops[k]? with
  | none => simp [hok] at h
  | some ok =>
    cases hoj : ops[j]? with
    | none =>
      exfalso
      simp only [hok, hoj] at h
      split at h
      · split at h
        · obtain ⟨_, _, h⟩ := h; exact h
        · obtain ⟨_, _, _, h⟩ := h; exact h
        · exact h
      · exact h
    | some oj =>
      obtain ⟨a1, a2, a3⟩ := Oper.apart_spec (hap ok oj hok hoj)
      have hsk := fun cs b => he k ok cs b hok
      have hsj := fun cs b => he j oj cs b hoj
      have ej : ∀ v, execOp (a.put ok.dst v).eval oj = execOp a.eval oj := fun v => execOp_put oj hsj a ok.dst v a1
      have ek : ∀ v, execOp (a.put oj.dst v).eval ok = execOp a.eval ok := fun v => execOp_put ok hsk a oj.dst v a3
      have wj : ∀ v, Region.wanted oj (yielded ops (a.put ok.dst v).tmps) = Region.wanted oj (yielded ops a.tmps) := fun v => wanted_put oj a ok.dst v a1
      have wk : ∀ v, Region.wanted ok (yielded ops (a.put oj.dst v).tmps) = Region.wanted ok (yielded ops a.tmps) := fun v => wanted_put ok a oj.dst v a3
      have pc : ∀ v u, (a.put ok.dst v).put oj.dst u = (a.put oj.dst u).put ok.dst v := fun v u => Act.put_comm a v u a2
      have sw : ∀ (x y : Nat × (World → Prop)) (p : Pend), ∀ z ∈ x :: y :: p, z ∈ y :: x :: p := by
        intro x y p z hz
        simp only [List.mem_cons] at hz ⊢
        rcases hz with h | h | h
        · exact .inr (.inl h)
        · exact .inl h
        · exact .inr (.inr h)
      simp only [hok, hoj] at h ⊢
      rcases Bool.eq_false_or_eq_true (Region.wanted ok (yielded ops a.tmps)) with hwk | hwk <;> rcases Bool.eq_false_or_eq_true (Region.wanted oj (yielded ops a.tmps)) with hwj | hwj
      · simp only [hwk, hwj, wj, wk, if_true, ej, ek] at h ⊢
        cases hck : cls P ok.op <;> cases hcj : cls P oj.op <;> simp only [hck, hcj] at h ⊢
        · obtain ⟨v, hv, u, hu, h⟩ := h
          exact ⟨u, hu, v, hv, by rw [← pc]; exact h⟩
        · obtain ⟨v, hv, u, hu, hp, h⟩ := h
          exact ⟨u, hu, hp, v, hv, by rw [← pc]; exact h⟩
        · obtain ⟨_, _, h⟩ := h; exact h
        · obtain ⟨v, hv, hp, u, hu, h⟩ := h
          exact ⟨u, hu, v, hv, hp, by rw [← pc]; exact h⟩
        · obtain ⟨v, hv, hp, u, hu, hq, h⟩ := h
          exact ⟨u, hu, hq, v, hv, hp, by rw [← pc]; exact hd _ _ _ (sw _ _ _) h⟩
        · obtain ⟨_, _, _, h⟩ := h; exact h
      · simp only [hwk, hwj, wj, wk, if_true, ek, Bool.false_eq_true, if_false] at h ⊢
        cases hck : cls P ok.op <;> simp only [hck] at h ⊢
        · obtain ⟨v, hv, h⟩ := h
          exact ⟨v, hv, by rw [← pc]; exact h⟩
        · obtain ⟨v, hv, hp, h⟩ := h
          exact ⟨v, hv, hp, by rw [← pc]; exact h⟩
      · simp only [hwk, hwj, wj, wk, if_true, ej, Bool.false_eq_true, if_false] at h ⊢
        cases hcj : cls P oj.op <;> simp only [hcj] at h ⊢
        · obtain ⟨v, hv, h⟩ := h
          exact ⟨v, hv, by rw [← pc]; exact h⟩
        · obtain ⟨v, hv, hp, h⟩ := h
          exact ⟨v, hv, hp, by rw [← pc]; exact h⟩
      · simp only [hwk, hwj, wj, wk, Bool.false_eq_true, if_false] at h ⊢
        rw [← pc]; exact h
theorem Tq.pull (he : ∀ (j : Nat) (o : Oper) cs b, ops[j]? = some o → o.op ≠ .select cs b) {past : Past} {w : World} {j : Nat} : ∀ {l : List Nat} {D : Pend → Act → Prop} {pend : Pend} {a : Act}, PM D → (∀ k ∈ l, ∀ ok oj, ops[k]? = some ok → ops[j]? = some oj → ok.apart ops oj = true) →
    Tq P ops anc past w l (quietStep P ops anc past w j D) pend a → quietStep P ops anc past w j (Tq P ops anc past w l D) pend a
  | [], _, _, _, _, _, h => h
  | k :: l, D, pend, a, hd, hap, h => qswap he (hap k List.mem_cons_self) (Tq.pm hd) (quietStep.mono h fun _ _ h => Tq.pull he hd (fun k' hk' => hap k' (List.mem_cons_of_mem _ hk')) h)
theorem Tq.front (he : ∀ (j : Nat) (o : Oper) cs b, ops[j]? = some o → o.op ≠ .select cs b) {past : Past} {w : World} {j : Nat} : ∀ {l : List Nat} {D : Pend → Act → Prop} {pend : Pend} {a : Act}, PM D → j ∈ l → l.Pairwise (· < ·) → (∀ k ∈ l, k < j → ∀ ok oj, ops[k]? = some ok → ops[j]? = some oj → ok.apart ops oj = true) →
    Tq P ops anc past w l D pend a → quietStep P ops anc past w j (Tq P ops anc past w (l.erase j) D) pend a
  | [], _, _, _, _, hm, _, _, _ => by cases hm
  | k :: l, D, pend, a, hd, hm, hs, hap, h => by
    by_cases hkj : k = j
    · subst hkj; simpa [Tq] using h
    · have hm' : j ∈ l := (List.mem_cons.1 hm).resolve_left (fun e => hkj e.symm)
      have hlt : k < j := (List.pairwise_cons.1 hs).1 j hm'
      have e : (k :: l).erase j = k :: l.erase j := by rw [List.erase_cons]; simp [hkj]
      rw [e]
      exact qswap he (hap k List.mem_cons_self hlt) (Tq.pm hd) (quietStep.mono h fun _ _ h => Tq.front he hd hm' (List.pairwise_cons.1 hs).2 (fun k' hk' hl' => hap k' (List.mem_cons_of_mem _ hk') hl') h)
/-- What only reads may come ahead of an effect that it has no order with. -/
theorem effSwap (he : ∀ (j : Nat) (o : Oper) cs b, ops[j]? = some o → o.op ≠ .select cs b) {i j : Nat} (hji : anc j i = false) (hap : ∀ oi oj, ops[i]? = some oi → ops[j]? = some oj → oi.apart ops oj = true) {D : Pend → Past → Act → World → Prop} {pend : Pend} {past : Past} {a : Act} {w : World}
    (h : effStep P ops anc i (fun pend past a w => quietStep P ops anc past w j (fun pend a => D pend past a w) pend a) pend past a w) : quietStep P ops anc past w j (fun pend a => effStep P ops anc i D pend past a w) pend a := by
  unfold effStep quietStep at *
  cases hoi : ops[i]? with
  | none => simp [hoi] at h
  | some oi =>
    cases hoj : ops[j]? with
    | none =>
      exfalso
      simp only [hoi, hoj] at h
      split at h
      · obtain ⟨_, _, _, h⟩ := h.some; exact h
      · exact h
    | some oj =>
      obtain ⟨a1, a2, a3⟩ := Oper.apart_spec (hap oi oj hoi hoj)
      have hsi := fun cs b => he i oi cs b hoi
      have hsj := fun cs b => he j oj cs b hoj
      have ej : ∀ v, execOp (a.put oi.dst v).eval oj = execOp a.eval oj := fun v => execOp_put oj hsj a oi.dst v a1
      have ei : ∀ v, execOp (a.put oj.dst v).eval oi = execOp a.eval oi := fun v => execOp_put oi hsi a oj.dst v a3
      have wj : ∀ v, Region.wanted oj (yielded ops (a.put oi.dst v).tmps) = Region.wanted oj (yielded ops a.tmps) := fun v => wanted_put oj a oi.dst v a1
      have wi : ∀ v, Region.wanted oi (yielded ops (a.put oj.dst v).tmps) = Region.wanted oi (yielded ops a.tmps) := fun v => wanted_put oi a oj.dst v a3
      have pc : ∀ v u, (a.put oi.dst v).put oj.dst u = (a.put oj.dst u).put oi.dst v := fun v u => Act.put_comm a v u a2
      simp only [hoi, hoj] at h ⊢
      rcases Bool.eq_false_or_eq_true (Region.wanted oi (yielded ops a.tmps)) with hwi | hwi <;> rcases Bool.eq_false_or_eq_true (Region.wanted oj (yielded ops a.tmps)) with hwj | hwj
      · simp only [hwi, hwj, wj, wi, if_true, ej, ei] at h ⊢
        cases hcj : cls P oj.op <;> simp only [hcj] at h ⊢
        · obtain ⟨v0, w0, _, u, hu, _⟩ := h.some
          refine ⟨u, hu, h.mono fun v w' ⟨h1, u', hu', h2⟩ => ⟨h1, ?_⟩⟩
          have : u' = u := by have e1 := hu' w; rw [hu w] at e1; injection e1 with e1; injection e1 with e1; exact e1.symm
          subst this
          rw [← pc]; exact h2
        · obtain ⟨v0, w0, _, u, hu, hpu, _⟩ := h.some
          have huw := hpu _ List.mem_cons_self hji
          refine ⟨u, huw, fun x hx hxa => hpu x (List.mem_cons_of_mem _ hx) hxa, h.mono fun v w' ⟨h1, u', hu', hp', h2⟩ => ?_⟩
          have : u' = u := by have e1 := hp' _ List.mem_cons_self hji; rw [huw] at e1; injection e1 with e1; injection e1 with e1; exact e1.symm
          subst this
          refine ⟨fun q hq' hqa => ?_, by rw [← pc]; exact h2⟩
          rcases List.mem_cons.1 hq' with rfl | hq'
          · exact hu'
          · exact h1 q hq' hqa
        · obtain ⟨_, _, _, h⟩ := h.some; exact h
      · simp only [hwi, hwj, wj, wi, if_true, ei, Bool.false_eq_true, if_false] at h ⊢
        exact h.mono fun v w' ⟨h1, h2⟩ => ⟨h1, by rw [← pc]; exact h2⟩
      · simp only [hwi, hwj, wj, wi, if_true, ej, Bool.false_eq_true, if_false] at h ⊢
        cases hcj : cls P oj.op <;> simp only [hcj] at h ⊢
        · obtain ⟨v, hv, h⟩ := h
          exact ⟨v, hv, by rw [← pc]; exact h⟩
        · obtain ⟨v, hv, hp, h⟩ := h
          exact ⟨v, hv, hp, by rw [← pc]; exact h⟩
      · simp only [hwi, hwj, wj, wi, Bool.false_eq_true, if_false] at h ⊢
        rw [← pc]; exact h
/-- One value serves all branches. -/
theorem quietStep.all {ι : Type} [Inhabited ι] {past : Past} {w : World} {j : Nat} {p : ι → Prop} (i0 : ι) (h0 : p i0) {D : ι → Pend → Act → Prop} {pend : Pend} {a : Act} (h : ∀ i, p i → quietStep P ops anc past w j (D i) pend a) : quietStep P ops anc past w j (fun pend a => ∀ i, p i → D i pend a) pend a := by
  have h1 := h i0 h0
  unfold quietStep at *
  cases ho : ops[j]? with
  | none => simp [ho] at h1
  | some o =>
    simp only [ho] at h h1 ⊢
    split
    · rename_i hw
      simp only [hw, if_true] at h h1
      cases hc : cls P o.op <;> simp only [hc] at h h1 ⊢
      · obtain ⟨v, hv, _⟩ := h1
        refine ⟨v, hv, fun i hi => ?_⟩
        obtain ⟨v', hv', h'⟩ := h i hi
        have : v' = v := by have e1 := hv' w; rw [hv w] at e1; injection e1 with e1; injection e1 with e1; exact e1.symm
        subst this; exact h'
      · obtain ⟨v, hv, hp, _⟩ := h1
        refine ⟨v, hv, hp, fun i hi => ?_⟩
        obtain ⟨v', hv', _, h'⟩ := h i hi
        have : v' = v := by rw [hv] at hv'; injection hv' with e1; injection e1 with e1; exact e1.symm
        subst this; exact h'
    · rename_i hw
      simp only [hw] at h
      exact fun i hi => h i hi
end
end Go.Ev
