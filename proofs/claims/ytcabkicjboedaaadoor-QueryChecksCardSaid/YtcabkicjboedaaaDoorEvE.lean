import Derived.Test.YtcabkicjboedaaaDoorEvD
namespace Go.Ev
open Go
section
variable {P : Program}
/-- An operation is carried out: it yields, or stores, or a call returns; K holds of the value and the world behind it. -/
def EffOp (P : Program) (s : Sem Next) (w : World) (K : Value → World → Prop) : Prop :=
  match s.run P w with
  | .ok (.value v) w' => K v w'
  | .ok .skip w' => K undef w'
  | .ok (.enter f args) w' => Calls P f args w' fun e w'' => ∃ v, e = .returned v ∧ K v w''
  | _ => False
theorem EffOp.mono {s : Sem Next} {w : World} {K K' : Value → World → Prop} (h : EffOp P s w K) (hk : ∀ v w', K v w' → K' v w') : EffOp P s w K' := by
  unfold EffOp at *
  split <;> rename_i hr <;> simp only [hr] at h
  · exact hk _ _ h
  · exact hk _ _ h
  · exact h.mono fun e w'' ⟨v, he, hv⟩ => ⟨v, he, hk _ _ hv⟩
theorem EffOp.some {s : Sem Next} {w : World} {K : Value → World → Prop} (h : EffOp P s w K) : ∃ v w', K v w' := by
  unfold EffOp at h
  split at h
  · exact ⟨_, _, h⟩
  · exact ⟨_, _, h⟩
  · obtain ⟨e, w', _, ⟨v, _, hv⟩, _⟩ := h []
    exact ⟨v, w', hv⟩
  · exact h.elim
theorem EffOp.wp {o : Oper} {a : Act} {w : World} {K : Value → World → Prop} {Q : Exit → Act → World → Prop} (h : EffOp P (execOp a.eval o) w K) : o.wp P a w (fun a' w' => ∃ v, a' = a.put o.dst v ∧ K v w') Q := by
  unfold Oper.wp
  unfold EffOp at h
  split at h
  · rename_i hr; rw [hr]; exact ⟨_, rfl, h⟩
  · rename_i hr; rw [hr]; exact ⟨_, rfl, h⟩
  · rename_i hr
    rw [hr]
    exact h.mono fun e w'' ⟨v, he, hv⟩ => by subst he; exact ⟨v, rfl, hv⟩
  · exact h.elim
theorem Yld.eff {b : Bool} {s : Sem Next} {w : World} {K : Value → World → Prop} (h : Yld P b s K w) : EffOp P s w K := by
  obtain ⟨v, w', hr, hk, _⟩ := h
  unfold EffOp
  rw [hr]; exact hk
theorem run_callFunc {f : FuncId} {args : Array Value} {w : World} (h : callable P f = true) : (callFunc f args).run P w = .ok (.enter f args) w := by
  unfold callable at h
  split at h
  · rename_i fn hfn
    simp only [Bool.and_eq_true, Bool.not_eq_true'] at h
    have h2 : fn.name ≠ "runtime.NumGoroutine" := by simpa using h.2
    have hb : fn.body ≠ none := by intro hb; simp [hb] at h
    simp [callFunc, hfn, h2, hb]
  · cases h
theorem eff_spec {f : FuncId} {args : Array Value} {w : World} {K : Value → World → Prop} (h : Meets P f args w K) : EffOp P (callFunc f args) w K := by
  unfold EffOp
  rw [run_callFunc h.1]
  exact h.2
theorem eff_callF {f : FuncId} {args : List Value} {w : World} {K : Value → World → Prop} (h : callF P f args K w) : EffOp P (callFunc f args.toArray) w K := by
  unfold callF at h
  split at h
  · simp only [cond_eq_ite] at h
    split at h
    · exact eff_spec h
    · unfold extW at h
      unfold EffOp
      split at h
      · rename_i hr; rw [hr]; exact h
      · exact h.elim
  · exact h.elim
theorem opW_eff {e : Env} {a : Act} {o : Oper} {K : Value → World → Prop} {w : World} (ag : Agree e a) (h : opW P e o.type K w o.op) : EffOp P (execOp a.eval o) w K := by
  by_cases hv : valOp o.op = true
  · exact (opW_val ag hv h).eff
  · obtain ⟨dst, op, ty, pos, after, guard⟩ := o
    cases op <;> simp [valOp] at hv <;> simp only [opW] at h
    case insert t m k v =>
      replace h := mO_some h; obtain ⟨mv, hm, h⟩ := h
      replace h := mO_some h; obtain ⟨kv, hk, h⟩ := h
      replace h := mO_some h; obtain ⟨vv, hv, h⟩ := h
      obtain ⟨w', hr, hK⟩ := semU_spec h
      unfold EffOp
      simp [execOp, oev_sound ag hm, oev_sound ag hk, oev_sound ag hv, hr, hK]
    case mapUpdate t m k v =>
      replace h := mO_some h; obtain ⟨mv, hm, h⟩ := h
      replace h := mO_some h; obtain ⟨kv, hk, h⟩ := h
      replace h := mO_some h; obtain ⟨vv, hv, h⟩ := h
      obtain ⟨w', hr, hK⟩ := semU_spec h
      unfold EffOp
      simp [execOp, oev_sound ag hm, oev_sound ag hk, oev_sound ag hv, hr, hK]
    case entryStore t m s x =>
      replace h := mO_some h; obtain ⟨mv, hm, h⟩ := h
      replace h := mO_some h; obtain ⟨kv, hk, h⟩ := h
      replace h := mO_some h; obtain ⟨vv, hv, h⟩ := h
      obtain ⟨w', hr, hK⟩ := semU_spec h
      unfold EffOp
      simp [execOp, oev_sound ag hm, oev_sound ag hk, oev_sound ag hv, hr, hK]
    case store t x v =>
      replace h := mO_some h; obtain ⟨xv, hx, h⟩ := h
      replace h := mO_some h; obtain ⟨vv, hv, h⟩ := h
      replace h := mO_some h; obtain ⟨n, hn, h⟩ := h
      replace h := mPtr_spec h; obtain ⟨ad, rfl, h⟩ := h
      obtain ⟨hsz, h⟩ := h
      replace h := mO_some h; obtain ⟨w', hs, hK⟩ := h
      have hz : (sizeOf t).run P w = .ok n w := run_size' hn
      have hst := run_storeCells_stores (P := P) _ _ _ _ hs
      unfold EffOp
      simp [execOp, oev_sound ag hx, oev_sound ag hv, Instr.storeAt, Instr.sureAddr, storeVar, hz, hsz, hst, hK]
    case call c =>
      obtain ⟨callee, args, argTypes⟩ := c
      unfold callW at h
      replace h := mO_some h; obtain ⟨vs, hvs, h⟩ := h
      cases callee with
      | builtin b => simp at hv
      | value f =>
        simp only [] at h
        split at h
        · rename_i g hg
          have hf : f = .func g := by cases f <;> simp [calleeF] at hg; subst hg; rfl
          subst hf
          have he : (execOp a.eval ⟨dst, .call ⟨.value (.func g), args, argTypes⟩, ty, pos, after, guard⟩) = callFunc g vs.toArray := by
            simp [execOp, resolve, eval_map ag hvs, Act.eval, Deferred.ofValue, invoke]
          rw [he]
          split at h
          · simp only [cond_eq_ite] at h
            split at h
            · exact eff_spec h
            · unfold extW at h
              unfold EffOp
              split at h
              · rename_i hr; rw [hr]; exact h
              · exact h.elim
          · exact h.elim
        · replace h := mO_some h; obtain ⟨fv, hf, h⟩ := h
          unfold callV at h
          split at h
          · rename_i g first captured
            have he : (execOp a.eval ⟨dst, .call ⟨.value f, args, argTypes⟩, ty, pos, after, guard⟩) = callFunc g (first ++ vs.toArray ++ captured) := by
              simp [execOp, resolve, eval_map ag hvs, oev_sound ag hf, Deferred.ofValue, invoke]
            rw [he]
            exact eff_spec h
          · exact h.elim
      | invoke r name =>
        replace h := mO_some h; obtain ⟨rv, hr, h⟩ := h
        unfold callM at h
        split at h
        · rename_i t v
          split at h
          · rename_i g u w' hm
            have he : (execOp a.eval ⟨dst, .call ⟨.invoke r name, args, argTypes⟩, ty, pos, after, guard⟩) = callMethod (.iface t v) name vs.toArray := by
              simp [execOp, resolve, eval_map ag hvs, oev_sound ag hr, invoke]
            rw [he]
            have hc : (callMethod (.iface t v) name vs.toArray).run P w = (callFunc g (#[u] ++ vs.toArray)).run P w' := by
              simp [callMethod, hm]
            have hf := eff_callF h
            unfold EffOp at hf ⊢
            rw [hc]
            have hv : (u :: vs).toArray = #[u] ++ vs.toArray := by simp
            rw [← hv]
            exact hf
          · exact h.elim
        · exact h.elim
    all_goals exact h.elim
end
end Go.Ev
