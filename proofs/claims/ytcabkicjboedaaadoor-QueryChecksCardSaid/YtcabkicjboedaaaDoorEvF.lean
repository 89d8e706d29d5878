import Derived.Test.YtcabkicjboedaaaDoorEvE
namespace Go.Ev
open Go
/-! ### Regions that draw their order: the lexical walk, with what must hold at the other orders. -/
section
variable {P : Program}
def readOp : Op → Bool
  | .load .. | .lookup .. | .binOp .. | .typeAssert .. => true
  | .call c => match c.callee with
    | .builtin .len => true
    | _ => false
  | _ => false
inductive Cls where | pure | read | eff
  deriving DecidableEq
def cls (P : Program) (op : Op) : Cls := bif pureOp P op then .pure else bif readOp op then .read else .eff
/-- The wanted operations ahead of operation i, one bit each. -/
def ancs (ops : List Oper) : List Nat := go ops []
where
  go : List Oper → List Nat → List Nat
    | [], acc => acc
    | o :: l, acc => go l (acc ++ [o.after.toList.foldl (fun s e => bif Region.binds .any e then s ||| 2 ^ e.on ||| acc.getD e.on 0 else s) 0])
abbrev Pend := List (Nat × (World → Prop))
abbrev Past := List (Nat × World)

/-- The lexical walk at the level of frames. -/
def T (P : Program) (ops : Array Oper) (anc : Nat → Nat → Bool) (Q : Act → World → Prop) : List Nat → Pend → Past → Act → World → Prop
  | [], _, _, a, w => Q a w
  | i :: l, pend, past, a, w => match ops[i]? with
    | none => False
    | some o => if Region.wanted o (yielded ops a.tmps) = true then
        match cls P o.op with
        | .pure => ∃ v, (∀ w1, (execOp a.eval o).run P w1 = .ok (.value v) w1) ∧ T P ops anc Q l pend past (a.put o.dst v) w
        | .read => ∃ v, (execOp a.eval o).run P w = .ok (.value v) w ∧ (∀ x ∈ past, anc i x.1 = false → (execOp a.eval o).run P x.2 = .ok (.value v) x.2) ∧
            T P ops anc Q l ((i, fun W => (execOp a.eval o).run P W = .ok (.value v) W) :: pend) past (a.put o.dst v) w
        | .eff => (∀ x ∈ past, anc i x.1 = true) ∧ EffOp P (execOp a.eval o) w fun v w' => (∀ q ∈ pend, anc i q.1 = false → q.2 w') ∧ T P ops anc Q l pend ((i, w) :: past) (a.put o.dst v) w'
      else T P ops anc Q l pend past (a.put o.dst undef) w
variable {ops : Array Oper} {anc : Nat → Nat → Bool} {Q : Act → World → Prop}
theorem T.mono : ∀ (l : List Nat) {pend pend' : Pend} {past past' : Past} {a : Act} {w : World}, (∀ x ∈ pend', x ∈ pend) → (∀ x ∈ past', x ∈ past) → T P ops anc Q l pend past a w → T P ops anc Q l pend' past' a w
  | [], _, _, _, _, _, _, _, _, h => h
  | i :: l, pend, pend', past, past', a, w, h1, h2, h => by
    simp only [T] at h ⊢
    cases ho : ops[i]? with
    | none => simp [ho] at h
    | some o =>
      simp only [ho] at h ⊢
      split
      · rename_i hw
        simp only [hw, if_true] at h
        cases hc : cls P o.op
        · simp only [hc] at h ⊢
          obtain ⟨v, hv, h⟩ := h
          exact ⟨v, hv, T.mono l h1 h2 h⟩
        · simp only [hc] at h ⊢
          obtain ⟨v, hv, hp, h⟩ := h
          refine ⟨v, hv, fun x hx => hp x (h2 x hx), T.mono l ?_ h2 h⟩
          intro x hx
          rcases List.mem_cons.1 hx with rfl | hx
          · exact List.mem_cons_self
          · exact List.mem_cons_of_mem _ (h1 x hx)
        · simp only [hc] at h ⊢
          refine ⟨fun x hx => h.1 x (h2 x hx), h.2.mono fun v w' ⟨hq, h⟩ => ⟨fun q hq' => hq q (h1 q hq'), T.mono l h1 ?_ h⟩⟩
          intro x hx
          rcases List.mem_cons.1 hx with rfl | hx
          · exact List.mem_cons_self
          · exact List.mem_cons_of_mem _ (h2 x hx)
      · rename_i hw
        simp only [hw] at h
        exact T.mono l h1 h2 h

/-- Two neighbours that neither wait for one another nor share a temporary may come up the other way round. -/
theorem T.swap {k i : Nat} {ok oi : Oper} (hk : ops[k]? = some ok) (hi : ops[i]? = some oi) (hki : anc i k = false) (hap : ok.apart ops oi = true)
    (hsk : ∀ cs b, ok.op ≠ .select cs b) (hsi : ∀ cs b, oi.op ≠ .select cs b) {l : List Nat} {pend : Pend} {past : Past} {a : Act} {w : World}
    (h : T P ops anc Q (k :: i :: l) pend past a w) : T P ops anc Q (i :: k :: l) pend past a w := by
  obtain ⟨a1, a2, a3⟩ := Oper.apart_spec hap
  have ei : ∀ v, execOp (a.put ok.dst v).eval oi = execOp a.eval oi := fun v => execOp_put oi hsi a ok.dst v a1
  have ek : ∀ v, execOp (a.put oi.dst v).eval ok = execOp a.eval ok := fun v => execOp_put ok hsk a oi.dst v a3
  have wi : ∀ v, Region.wanted oi (yielded ops (a.put ok.dst v).tmps) = Region.wanted oi (yielded ops a.tmps) := fun v => wanted_put oi a ok.dst v a1
  have wk : ∀ v, Region.wanted ok (yielded ops (a.put oi.dst v).tmps) = Region.wanted ok (yielded ops a.tmps) := fun v => wanted_put ok a oi.dst v a3
  have pc : ∀ v u, (a.put ok.dst v).put oi.dst u = (a.put oi.dst u).put ok.dst v := fun v u => Act.put_comm a v u a2
  have sw : ∀ (x y : Nat × (World → Prop)) (p : Pend), ∀ z ∈ x :: y :: p, z ∈ y :: x :: p := by
    intro x y p z hz
    simp only [List.mem_cons] at hz ⊢
    rcases hz with h | h | h
    · exact .inr (.inl h)
    · exact .inl h
    · exact .inr (.inr h)
  simp only [T, hk, hi] at h ⊢
  by_cases hwk : Region.wanted ok (yielded ops a.tmps) = true <;> by_cases hwi : Region.wanted oi (yielded ops a.tmps) = true
  · simp only [hwk, hwi, wi, wk, if_true, ei, ek] at h ⊢
    cases hck : cls P ok.op <;> cases hci : cls P oi.op <;> simp only [hck, hci] at h ⊢
    · obtain ⟨v, hv, u, hu, h⟩ := h
      exact ⟨u, hu, v, hv, by rw [← pc]; exact h⟩
    · obtain ⟨v, hv, u, hu, hp, h⟩ := h
      exact ⟨u, hu, hp, v, hv, by rw [← pc]; exact h⟩
    · obtain ⟨v, hv, hp, h⟩ := h
      exact ⟨hp, h.mono fun u w' ⟨h1, h2⟩ => ⟨h1, v, hv, by rw [← pc]; exact h2⟩⟩
    · obtain ⟨v, hv, hp, u, hu, h⟩ := h
      exact ⟨u, hu, v, hv, hp, by rw [← pc]; exact h⟩
    · obtain ⟨v, hv, hp, u, hu, hq, h⟩ := h
      refine ⟨u, hu, hq, v, hv, hp, ?_⟩
      rw [← pc]
      exact T.mono l (sw _ _ _) (fun _ h => h) h
    · obtain ⟨v, hv, hp, hq, h⟩ := h
      refine ⟨hq, h.mono fun u w' ⟨h1, h2⟩ => ⟨fun q hq' => h1 q (List.mem_cons_of_mem _ hq'), v, h1 _ List.mem_cons_self hki, ?_, by rw [← pc]; exact h2⟩⟩
      intro x hx hxa
      rcases List.mem_cons.1 hx with rfl | hx
      · exact hv
      · exact hp x hx hxa
    · obtain ⟨hq, h⟩ := h
      obtain ⟨v0, w0, _, u, hu, _⟩ := h.some
      refine ⟨u, hu, hq, h.mono fun v w' ⟨h1, u', hu', h2⟩ => ⟨h1, ?_⟩⟩
      have : u' = u := by have e1 := hu' w; rw [hu w] at e1; injection e1 with e1; injection e1 with e1; exact e1.symm
      subst this
      rw [← pc]; exact h2
    · obtain ⟨hq, h⟩ := h
      obtain ⟨v0, w0, _, u, hu, hpu, _⟩ := h.some
      have huw := hpu _ List.mem_cons_self hki
      refine ⟨u, huw, fun x hx hxa => hpu x (List.mem_cons_of_mem _ hx) hxa, hq, h.mono fun v w' ⟨h1, u', hu', hp', h2⟩ => ?_⟩
      have : u' = u := by have e1 := hp' _ List.mem_cons_self hki; rw [huw] at e1; injection e1 with e1; injection e1 with e1; exact e1.symm
      subst this
      refine ⟨fun q hq' hqa => ?_, by rw [← pc]; exact h2⟩
      rcases List.mem_cons.1 hq' with rfl | hq'
      · exact hu'
      · exact h1 q hq' hqa
    · obtain ⟨hq, h⟩ := h
      obtain ⟨v0, w0, _, hp, _⟩ := h.some
      have := hp _ List.mem_cons_self
      rw [hki] at this; cases this
  · simp only [hwk, hwi, wi, wk, if_true, ek] at h ⊢
    cases hck : cls P ok.op <;> simp only [hck] at h ⊢
    · obtain ⟨v, hv, h⟩ := h
      exact ⟨v, hv, by rw [← pc]; exact h⟩
    · obtain ⟨v, hv, hp, h⟩ := h
      exact ⟨v, hv, hp, by rw [← pc]; exact h⟩
    · obtain ⟨hq, h⟩ := h
      exact ⟨hq, h.mono fun v w' ⟨h1, h2⟩ => ⟨h1, by rw [← pc]; exact h2⟩⟩
  · simp only [hwk, hwi, wi, wk, if_true, ei] at h ⊢
    cases hci : cls P oi.op <;> simp only [hci] at h ⊢
    · obtain ⟨v, hv, h⟩ := h
      exact ⟨v, hv, by rw [← pc]; exact h⟩
    · obtain ⟨v, hv, hp, h⟩ := h
      exact ⟨v, hv, hp, by rw [← pc]; exact h⟩
    · obtain ⟨hq, h⟩ := h
      exact ⟨hq, h.mono fun v w' ⟨h1, h2⟩ => ⟨h1, by rw [← pc]; exact h2⟩⟩
  · simp only [hwk, hwi, wi, wk] at h ⊢
    rw [← pc]; exact h
end
end Go.Ev
