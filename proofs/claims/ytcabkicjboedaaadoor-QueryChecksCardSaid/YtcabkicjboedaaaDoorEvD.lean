import Derived.Test.YtcabkicjboedaaaDoorEvC
namespace Go.Ev
open Go
def pureBuiltin (P : Program) : Builtin → List TypeId → Bool
  | .len, [t] => match P.underlying t with
    | some .string | some (.slice _) => true
    | _ => false
  | .cap, _ | .min, _ | .max, _ => true
  | _, _ => false
def pureOp (P : Program) : Op → Bool
  | .move _ | .assign _ | .pick .. | .build .. | .nilCheck _ | .unOp .. | .makeInterface .. | .makeFunc .. | .slice .. | .fieldAddr .. | .field .. | .indexAddr .. | .index .. | .extract .. => true
  | .binOp _ t _ _ _ => plainD (P.underlying t)
  | .convert s d _ => pureConv P s d
  | .typeAssert _ _ t _ => match P.underlying t with
    | some (.interface _) => false
    | _ => true
  | .call c => match c.callee with
    | .builtin b => pureBuiltin P b c.argTypes.toList
    | _ => false
  | _ => false
section
variable {P : Program}
def Yld (P : Program) (pure : Bool) (s : Sem Next) (K : Value → World → Prop) (w : World) : Prop :=
  ∃ v w', s.run P w = .ok (.value v) w' ∧ K v w' ∧ (pure = true → (∀ w1, s.run P w1 = .ok (.value v) w1) ∧ w' = w)
theorem Yld.all {p : Bool} {s : Sem Next} {K : Value → World → Prop} {w : World} {v : Value} (h : ∀ w1, s.run P w1 = .ok (.value v) w1) (hk : K v w) : Yld P p s K w :=
  ⟨v, w, h w, hk, fun _ => ⟨h, rfl⟩⟩
theorem Yld.one {s : Sem Next} {K : Value → World → Prop} {w w' : World} {v : Value} (h : s.run P w = .ok (.value v) w') (hk : K v w') : Yld P false s K w :=
  ⟨v, w', h, hk, fun h => by cases h⟩
theorem Yld.sem {s : Sem Value} {K : Value → World → Prop} {w : World} (h : semV P s K w) : Yld P false (do pure (.value (← s))) K w := by
  obtain ⟨v, w', hr, hk⟩ := semV_spec h
  exact .one (exec_v hr) hk

theorem yld_builtin {b : Builtin} {ts : List TypeId} {ty : TypeId} {vs : List Value} {cs : Array Bool} {K : Value → World → Prop} {w : World} (h : builtinW P b ts ty vs K w) : Yld P (pureBuiltin P b ts) (builtin b ts.toArray ty cs vs.toArray) K w := by
  unfold builtinW at h
  split at h
  · unfold lenW at h
    split at h
    · rename_i t x hu
      replace h := mStr_spec h; obtain ⟨s, rfl, h⟩ := h
      exact .all (fun w1 => by simp [builtin, Builtin.len_, run_underlying hu, goInt]) h
    · rename_i t x e hu
      replace h := mSlice_spec h; obtain ⟨a, n, c, rfl, h⟩ := h
      exact .all (fun w1 => by simp [builtin, Builtin.len_, run_underlying hu, goInt]) h
    · rename_i t x _ h1 h2
      have hp : pureBuiltin P .len [t] = false := by
        show (match P.underlying t with
          | some .string | some (.slice _) => true
          | _ => false) = false
        split
        · rename_i hu; exact absurd hu h1
        · rename_i hu; exact absurd hu (h2 _)
        · rfl
      rw [hp]
      obtain ⟨v, w', hr, hk⟩ := semV_spec h
      exact .one (exec_v (by simpa [Builtin.len_] using hr)) hk
  · unfold capW at h
    split at h
    · rename_i t x e hu
      replace h := mSlice_spec h; obtain ⟨a, n, c, rfl, h⟩ := h
      exact .all (fun w1 => by simp [builtin, Builtin.cap_, run_underlying hu, goInt]) h
    · exact h.elim
  · obtain ⟨v, w', hr, hk⟩ := semV_spec h
    exact .one (exec_v (s := Builtin.append_ _ _ _) (by simpa [Builtin.append_] using hr)) hk
  · obtain ⟨v, w', hr, hk⟩ := semV_spec h
    exact .one (exec_v (s := Builtin.copy_ _ _ _) (by simpa [Builtin.copy_] using hr)) hk
  · obtain ⟨v, w', hr, hk⟩ := semV_spec h
    exact .one (exec_v (s := Builtin.delete_ _ _ _) (by simpa [Builtin.delete_] using hr)) hk
  · obtain ⟨v, w', hr, hk⟩ := semV_spec h
    exact .one (exec_v (s := Builtin.clear_ _ _ _) (by simpa [Builtin.clear_] using hr)) hk
  · split at h
    · unfold minmaxW at h
      replace h := mIntK_spec h; obtain ⟨x, rfl, h⟩ := h
      replace h := mIntK_spec h; obtain ⟨y, rfl, h⟩ := h
      exact .all (fun w1 => by simp [builtin, Builtin.min_, Builtin.min2]) h
    · exact h.elim
  · split at h
    · unfold minmaxW at h
      replace h := mIntK_spec h; obtain ⟨x, rfl, h⟩ := h
      replace h := mIntK_spec h; obtain ⟨y, rfl, h⟩ := h
      exact .all (fun w1 => by simp [builtin, Builtin.max_, Builtin.max2]) h
    · exact h.elim
  · exact .sem h
  · exact .sem h
  · exact h.elim

theorem pickW_spec {c : Value} {a b : Option Value} {K : Value → Prop} (h : pickW c a b K) : ∃ t v, c = .bool t ∧ (if t then a else b) = some v ∧ K v := by
  unfold pickW at h
  split at h
  · replace h := mBool_spec h; obtain ⟨t, rfl, h⟩ := h
    cases t <;> exact ⟨_, _, rfl, rfl, h⟩
  · replace h := mBool_spec h; obtain ⟨t, rfl, h⟩ := h
    cases t
    · exact h.elim
    · exact ⟨_, _, rfl, rfl, h⟩
  · replace h := mBool_spec h; obtain ⟨t, rfl, h⟩ := h
    cases t
    · exact ⟨_, _, rfl, rfl, h⟩
    · exact h.elim
  · exact h.elim
theorem oopt_sound {e : Env} {a : Act} (ag : Agree e a) {x : Option Operand} {v : Option Value} (h : oopt e x = some v) : x.map a.eval = v := by
  cases x with
  | none => simpa [oopt] using h
  | some x =>
    simp only [oopt] at h
    split at h
    · cases h
    · rename_i u hu
      cases h
      simp [oev_sound ag hu]
theorem eval_map {e : Env} {a : Act} (ag : Agree e a) {xs : Array Operand} {vs : List Value} (h : oevs e xs.toList = some vs) : xs.map a.eval = vs.toArray := by
  apply Array.ext'
  simpa using oevs_sound ag h
theorem evalp_map {e : Env} {a : Act} (ag : Agree e a) {xs : Array (Nat × Operand)} {vs : List (Nat × Value)} (h : oevps e xs.toList = some vs) : (xs.map fun (i, x) => (i, a.eval x)) = vs.toArray := by
  apply Array.ext'
  simpa using oevps_sound ag h
theorem places_run {w : World} : ∀ {fs : List Field} {l : List (Nat × Nat)}, placesO P fs = some l → (fs.mapM fun f => (do pure (f.offset, ← sizeOf f.type) : Sem (Nat × Nat))).run P w = .ok l w
  | [], l, h => by simp [placesO] at h; subst h; simp
  | f :: fs, l, h => by
    simp only [placesO] at h
    split at h
    · cases h
    · rename_i n hn
      split at h
      · cases h
      · rename_i l' hl
        cases h
        have hz : (sizeOf f.type).run P w = .ok n w := run_size' hn
        have := places_run (w := w) hl
        simp only [List.mapM_cons, Sem.run_bind, hz, Result.andThen_ok, Sem.run_pure, this]
theorem run_build {t : TypeId} {ps : List (Nat × Value)} {z : Value} {pl : Nat → Option (Nat × Nat)} {qs : List (Nat × Nat × Value)} {cs : List Value} (hz : zeroO P t = some z) (hp : buildPl P t = some pl) (hq : partsAt pl ps = some qs) (hc : fillL z.cells.toList qs = some cs) (w : World) :
    (Instr.build t ps.toArray).run P w = .ok (.agg cs.toArray) w := by
  have hf := partsAt_run (cs := z.cells) hq hc
  unfold buildPl at hp
  split at hp
  · rename_i fields hu
    split at hp
    · rename_i l hl
      cases hp
      have hm := places_run (w := w) hl
      have hm' : (fields.mapM fun f => (do pure (f.offset, ← sizeOf f.type) : Sem (Nat × Nat))).run P w = .ok l.toArray w := by
        rw [Array.mapM_eq_mapM_toList]
        simp only [Sem.run_map, hm, Result.andThen_ok]
      have hf' : Instr.fill (fun x => l.toArray[x]?) z.cells ps = some cs.toArray := by simpa using hf
      simp only [Instr.build, Sem.run_bind, run_zero' hz, run_underlying hu, Result.andThen_ok, hm', hf', Sem.run_pure]
    · cases hp
  · rename_i n el hu
    split at hp
    · rename_i m hm
      cases hp
      have hs : (sizeOf el).run P w = .ok m w := run_size' hm
      simp only [Instr.build, Sem.run_bind, run_zero' hz, run_underlying hu, Result.andThen_ok, hs, hf, Sem.run_pure]
    · cases hp
  · cases hp
theorem mNil_spec {x : Value} {K : Prop} {a : Act} {o : Oper} {y : Operand} (ho : o.op = .nilCheck y) (hx : a.eval y = x) (h : mNil x K) : (∀ w1, (execOp a.eval o).run P w1 = .ok (.value x) w1) ∧ K := by
  unfold mNil at h
  split at h
  · exact h.elim
  · exact h.elim
  · exact h.elim
  · exact h.elim
  · rename_i h1 h2 h3 h4
    refine ⟨fun w1 => ?_, h⟩
    simp only [execOp, ho, hx]
    rfl

theorem opW_val {e : Env} {a : Act} {o : Oper} {K : Value → World → Prop} {w : World} (ag : Agree e a) (hv : valOp o.op = true) (h : opW P e o.type K w o.op) : Yld P (pureOp P o.op) (execOp a.eval o) K w := by
  obtain ⟨dst, op, ty, pos, after, guard⟩ := o
  cases op <;> simp only [valOp] at hv <;> simp only [opW] at h
  case move x =>
    replace h := mO_some h; obtain ⟨v, hx, h⟩ := h
    exact .all (fun w1 => by simp [execOp, oev_sound ag hx]) h
  case assign x =>
    replace h := mO_some h; obtain ⟨v, hx, h⟩ := h
    exact .all (fun w1 => by simp [execOp, oev_sound ag hx]) h
  case pick c x y =>
    replace h := mO_some h; obtain ⟨c', hc, h⟩ := h
    replace h := pickW_spec h; obtain ⟨t, v, rfl, hv, h⟩ := h
    refine .all (fun w1 => ?_) h
    cases t
    · simp [execOp, oev_sound ag hc, asBool, oev_sound ag (x := y) (by simpa using hv)]
    · simp [execOp, oev_sound ag hc, asBool, oev_sound ag (x := x) (by simpa using hv)]
  case alloc t =>
    replace h := mO_some h; obtain ⟨z, hz, h⟩ := h
    refine .one ?_ h
    simp [execOp, Instr.alloc, run_zero' hz, newVar, newRow]
  case box t x =>
    replace h := mO_some h; obtain ⟨v, hx, h⟩ := h
    refine .one ?_ h
    simp [execOp, Instr.box, oev_sound ag hx, newVar, newRow]
  case build t parts =>
    replace h := mO_some h; obtain ⟨ps, hp, h⟩ := h
    replace h := mO_some h; obtain ⟨z, hz, h⟩ := h
    replace h := mO_some h; obtain ⟨pl, hpl, h⟩ := h
    replace h := mO_some h; obtain ⟨qs, hq, h⟩ := h
    replace h := mO_some h; obtain ⟨cs, hc, h⟩ := h
    refine .all (fun w1 => ?_) h
    simp only [execOp, evalp_map ag hp]
    exact exec_v (run_build hz hpl hq hc w1)
  case buildSlice t len parts =>
    replace h := mO_some h; obtain ⟨ps, hp, h⟩ := h
    split at h
    · rename_i el hu
      replace h := mO_some h; obtain ⟨n, hn, h⟩ := h
      replace h := mO_some h; obtain ⟨z, hz, h⟩ := h
      simp only [cond_eq_ite] at h
      split at h
      · rename_i hle
        replace h := mO_some h; obtain ⟨qs, hq, h⟩ := h
        replace h := mO_some h; obtain ⟨cs, hc, h⟩ := h
        split at h
        case isFalse => exact h.elim
        rename_i hzn'
        replace hzn' : z.cells.size = n := by simpa using hzn'
        refine .one (w' := w.alloc (.cells cs.toArray el)) (v := .slice (some ⟨w.heap.size, 0, none⟩) len len) ?_ h
        simp only [execOp, evalp_map ag hp]
        refine exec_v ?_
        have hs : (sizeOf el).run P w = .ok n w := run_size' hn
        have hle' : ¬ (len * n > 2 ^ 24) := by have := Nat.le_of_ble_eq_true hle; omega
        by_cases hzn : z.cells.size = n
        · have hrow : (Array.range (len * n)).map (fun i => (if len * n = 0 then #[] else z.cells)[i % (if len * n = 0 then #[] else z.cells).size]!) = (zrow z.cells.toList len).toArray := by
            by_cases h0 : len * n = 0
            · have hl : (zrow z.cells.toList len).length = 0 := by rw [zrow_length]; simp [hzn, h0]
              have := List.eq_nil_of_length_eq_zero hl
              simp [h0, this]
            · simp only [h0, if_false]
              subst hzn
              exact zrow_range _ _
          have hf := partsAt_run (cs := (zrow z.cells.toList len).toArray) hq (by simpa using hc)
          simp only [Instr.buildSlice, Sem.run_bind, run_underlying hu, hs, Result.andThen_ok, if_neg hle']
          by_cases h0 : len * n = 0
          · simp only [if_pos h0] at hrow ⊢
            simp only [Sem.run_bind, Sem.run_pure, Result.andThen_ok, hrow, hf, newRow, run_newObj]
            rfl
          · simp only [if_neg h0] at hrow ⊢
            simp only [Sem.run_bind, run_zero' hz, Sem.run_pure, Result.andThen_ok, hrow, hf, newRow, run_newObj]
            rfl
        · exact absurd hzn' hzn
      · exact h.elim
    · exact h.elim
  case load t x =>
    replace h := mO_some h; obtain ⟨x', hx, h⟩ := h
    replace h := mO_some h; obtain ⟨s, hs, h⟩ := h
    replace h := mPtr_spec h; obtain ⟨ad, rfl, h⟩ := h
    cases s with
    | none =>
      replace h := mO_some h; obtain ⟨v, hv, h⟩ := h
      refine .one ?_ h
      simp only [execOp, oev_sound ag hx]
      exact exec_v (run_loadAt1 hs hv)
    | some n =>
      replace h := mO_some h; obtain ⟨cs, hc, h⟩ := h
      refine .one ?_ h
      simp only [execOp, oev_sound ag hx]
      exact exec_v (run_loadAtN hs hc)
  case nilCheck x =>
    replace h := mO_some h; obtain ⟨v, hx, h⟩ := h
    obtain ⟨h1, h2⟩ := mNil_spec (a := a) (o := ⟨dst, .nilCheck x, ty, pos, after, guard⟩) rfl (oev_sound ag hx) h
    exact .all h1 h2
  case binOp op t x y yt =>
    replace h := mO_some h; obtain ⟨v, hx, h⟩ := h
    replace h := mO_some h; obtain ⟨u, hy, h⟩ := h
    obtain ⟨r, w', hr, hk, h1, h2⟩ := run_binW h
    refine ⟨r, w', ?_, hk, fun hp => ⟨fun w1 => ?_, h2 hp⟩⟩
    · simp only [execOp, oev_sound ag hx, oev_sound ag hy]; exact exec_v hr
    · simp only [execOp, oev_sound ag hx, oev_sound ag hy]; exact exec_v (h1 hp w1)
  case unOp op t x =>
    replace h := mO_some h; obtain ⟨v, hx, h⟩ := h
    obtain ⟨r, hr, hk⟩ := run_unW h
    exact .all (fun w1 => by simp only [execOp, oev_sound ag hx]; exact exec_v (hr w1)) hk
  case convert s d x =>
    replace h := mO_some h; obtain ⟨v, hx, h⟩ := h
    obtain ⟨r, w', hr, hk, h1⟩ := run_convW h
    refine ⟨r, w', ?_, hk, fun hp => ⟨fun w1 => ?_, (h1 hp).2⟩⟩
    · simp only [execOp, oev_sound ag hx]; exact exec_v hr
    · simp only [execOp, oev_sound ag hx]; exact exec_v ((h1 hp).1 w1)
  case makeInterface t x =>
    replace h := mO_some h; obtain ⟨v, hx, h⟩ := h
    split at h
    · rename_i d hu
      split at h
      · exact h.elim
      · rename_i hd
        refine .all (fun w1 => ?_) h
        simp only [execOp, oev_sound ag hx]
        refine exec_v ?_
        simp only [Instr.makeInterface, Sem.run_bind, run_underlying hu, Result.andThen_ok]
        first | rfl | (split <;> first | rfl | exact absurd rfl (hd _)) 
    · exact h.elim
  case makeFunc fn first captured =>
    replace h := mO_some h; obtain ⟨vs, h1, h⟩ := h
    replace h := mO_some h; obtain ⟨cs, h2, h⟩ := h
    exact .all (fun w1 => by simp [execOp, Instr.makeFunc, eval_map ag h1, eval_map ag h2]) h
  case makeMap t r =>
    cases r with
    | none => exact .one (by simp [execOp, Instr.makeMap]) h
    | some r =>
      replace h := mO_some h; obtain ⟨v, hr, h⟩ := h
      replace h := mInt_spec h; obtain ⟨k, n, rfl, h⟩ := h
      split at h
      · rename_i k' e' hu
        exact .one (by simp [execOp, Instr.makeMap, oev_sound ag hr, run_underlying hu, asInt, asIntOf]) h
      · exact h.elim
  case makeSlice t l c =>
    replace h := mO_some h; obtain ⟨lv, hl, h⟩ := h
    replace h := mO_some h; obtain ⟨cv, hc, h⟩ := h
    split at h
    · rename_i el hu
      split at h
      · rename_i i hi
        replace h := mO_some h; obtain ⟨z, hz, h⟩ := h
        simp only [cond_eq_ite] at h
        split at h
        · rename_i hzn
          replace hzn : z.cells.size = i.size := by simpa using hzn
          unfold makeSliceW at h
          replace h := mIntK_spec h; obtain ⟨l', rfl, h⟩ := h
          replace h := mIntK_spec h; obtain ⟨c', rfl, h⟩ := h
          obtain ⟨⟨h0, h1, h2, h3⟩, hk⟩ := h
          refine .one ?_ hk
          simp only [execOp, oev_sound ag hl, oev_sound ag hc]
          refine exec_v ?_
          have w1 : IntKind.i64.wrap l' = l' := by unfold IntKind.wrap; simp [IntKind.signed, IntKind.bits]; omega
          have w2 : IntKind.i64.wrap c' = c' := by unfold IntKind.wrap; simp [IntKind.signed, IntKind.bits]; omega
          have hs : (sizeOf el).run P w = .ok i.size w := run_sizeOf' hi
          have hzv : (zeroValue el).run P w = .ok z w := run_zero' (by unfold zeroO; rw [hi]; exact hz)
          have n1 : ¬ (c' < 0) := by omega
          have n2 : ¬ (l' < 0) := by omega
          have n3 : ¬ (c' < l') := by omega
          have n4 : ¬ (281474976710656 < (i.bytes : Int) * c') := by omega
          have hrow : (Array.range (c'.toNat * i.size)).map (fun j => (if c'.toNat * i.size = 0 then #[] else z.cells)[j % (if c'.toNat * i.size = 0 then #[] else z.cells).size]!) = (zrow z.cells.toList c'.toNat).toArray := by
            by_cases h0 : c'.toNat * i.size = 0
            · have hl : (zrow z.cells.toList c'.toNat).length = 0 := by rw [zrow_length]; simp [hzn, h0]
              have := List.eq_nil_of_length_eq_zero hl
              simp [h0, this]
            · simp only [h0, if_false]
              rw [← hzn]
              exact zrow_range _ _
          simp only [Instr.makeSlice, Sem.run_bind, run_underlying hu, Result.andThen_ok, asInt, asIntOf, Sem.run_pure, run_typeInfo' hi, w1, w2]
          simp only [n1, n2, n3, show ¬ ((i.bytes : Int) * c' > 2 ^ 48) from n4, decide_false, Bool.or_false, Bool.false_eq_true, if_false, Sem.run_bind, run_askRoom, Result.andThen_ok, hs]
          by_cases h0 : c'.toNat * i.size = 0
          · simp only [if_pos h0] at hrow ⊢
            simp only [Sem.run_bind, Sem.run_pure, Result.andThen_ok, hrow, newRow, run_newObj]
            rfl
          · simp only [if_neg h0] at hrow ⊢
            simp only [Sem.run_bind, hzv, Sem.run_pure, Result.andThen_ok, hrow, newRow, run_newObj]
            rfl
        · exact h.elim
      · exact h.elim
    · exact h.elim
  case slice t x lo hi mx =>
    cases mx with
    | some _ => exact h.elim
    | none =>
      replace h := mO_some h; obtain ⟨xv, hx, h⟩ := h
      replace h := mO_some h; obtain ⟨l, hl, h⟩ := h
      replace h := mO_some h; obtain ⟨g, hg, h⟩ := h
      obtain ⟨v, hv, hk⟩ := run_sliceW h
      exact .all (fun w1 => by simp only [execOp, oev_sound ag hx, oopt_sound ag hl, oopt_sound ag hg]; exact exec_v (hv w1)) hk
  case fieldAddr s x f =>
    replace h := mO_some h; obtain ⟨xv, hx, h⟩ := h
    replace h := mO_some h; obtain ⟨⟨off, ft⟩, hf, h⟩ := h
    replace h := mO_some h; obtain ⟨n, hn, h⟩ := h
    simp only [cond_eq_ite] at h
    split at h
    · exact h.elim
    · rename_i h0
      replace h := mPtr_spec h; obtain ⟨ad, rfl, h⟩ := h
      exact .all (fun w1 => by simp only [execOp, oev_sound ag hx]; exact exec_v (run_fieldAt hf hn (by simpa using h0))) h
  case field s x f =>
    replace h := mO_some h; obtain ⟨xv, hx, h⟩ := h
    replace h := mO_some h; obtain ⟨⟨off, ft⟩, hf, h⟩ := h
    replace h := mAgg_spec h; obtain ⟨cs, rfl, h⟩ := h
    obtain ⟨v, hv, hk⟩ := run_field hf h
    exact .all (fun w1 => by simp only [execOp, oev_sound ag hx]; exact exec_v (hv w1)) hk
  case indexAddr t x i =>
    replace h := mO_some h; obtain ⟨xv, hx, h⟩ := h
    replace h := mO_some h; obtain ⟨iv, hi, h⟩ := h
    obtain ⟨v, hv, hk⟩ := run_indexAddrW h
    exact .all (fun w1 => by simp only [execOp, oev_sound ag hx, oev_sound ag hi]; exact exec_v (hv w1)) hk
  case index t x i =>
    replace h := mO_some h; obtain ⟨xv, hx, h⟩ := h
    replace h := mO_some h; obtain ⟨iv, hi, h⟩ := h
    obtain ⟨v, hv, hk⟩ := run_indexW h
    exact .all (fun w1 => by simp only [execOp, oev_sound ag hx, oev_sound ag hi]; exact exec_v (hv w1)) hk
  case lookup t m k ok =>
    replace h := mO_some h; obtain ⟨mv, hm, h⟩ := h
    replace h := mO_some h; obtain ⟨kv, hk, h⟩ := h
    simp only [execOp, oev_sound ag hm, oev_sound ag hk]
    exact .sem h
  case mapEntry t m k =>
    replace h := mO_some h; obtain ⟨mv, hm, h⟩ := h
    replace h := mO_some h; obtain ⟨kv, hk, h⟩ := h
    simp only [execOp, oev_sound ag hm, oev_sound ag hk]
    exact .sem h
  case range t x =>
    replace h := mO_some h; obtain ⟨xv, hx, h⟩ := h
    simp only [execOp, oev_sound ag hx]
    exact .sem h
  case next it s =>
    replace h := mO_some h; obtain ⟨xv, hx, h⟩ := h
    simp only [execOp, oev_sound ag hx]
    exact .sem h
  case entry it =>
    replace h := mO_some h; obtain ⟨xv, hx, h⟩ := h
    simp only [execOp, oev_sound ag hx]
    exact .sem h
  case typeAssert x xt t ok =>
    replace h := mO_some h; obtain ⟨xv, hx, h⟩ := h
    split at h
    · rename_i ms hu
      simp only [execOp, oev_sound ag hx, pureOp, hu]
      exact .sem h
    · rename_i d hd hu
      replace h := mO_some h; obtain ⟨z, hz, h⟩ := h
      have hr : ∃ v, (∀ w1, (Instr.typeAssert xv xt t ok).run P w1 = .ok v w1) ∧ K v w := by
        unfold taW at h
        split at h
        · cases ok
          · exact h.elim
          · refine ⟨_, fun w1 => ?_, h⟩
            cases d <;> first | exact absurd hu (hd _) | exact absurd rfl (hd _) | exact (hd _ hu).elim | exact absurd hd (hu _) | simp [Instr.typeAssert, run_underlying hu, run_zero' hz]
        · rename_i t' v'
          simp only [cond_eq_ite] at h
          split at h
          · rename_i he
            have he : t' = t := by simpa using he
            subst he
            cases ok
            · refine ⟨_, fun w1 => ?_, h⟩
              cases d <;> first | exact absurd hu (hd _) | exact absurd rfl (hd _) | exact (hd _ hu).elim | exact absurd hd (hu _) | simp [Instr.typeAssert, run_underlying hu]
            · refine ⟨_, fun w1 => ?_, h⟩
              cases d <;> first | exact absurd hu (hd _) | exact absurd rfl (hd _) | exact (hd _ hu).elim | exact absurd hd (hu _) | simp [Instr.typeAssert, run_underlying hu]
          · rename_i he
            have he : t' ≠ t := by simpa using he
            cases ok
            · exact h.elim
            · refine ⟨_, fun w1 => ?_, h⟩
              cases d <;> first | exact absurd hu (hd _) | exact absurd rfl (hd _) | exact (hd _ hu).elim | exact absurd hd (hu _) | simp [Instr.typeAssert, run_underlying hu, he, run_zero' hz]
        · exact h.elim
      obtain ⟨v, hv, hk⟩ := hr
      exact .all (fun w1 => by simp only [execOp, oev_sound ag hx]; exact exec_v (hv w1)) hk
    · exact h.elim
  case extract x i =>
    replace h := mO_some h; obtain ⟨xv, hx, h⟩ := h
    replace h := mTup_spec h; obtain ⟨vs, rfl, h⟩ := h
    replace h := mO_some h; obtain ⟨v, hv, h⟩ := h
    exact .all (fun w1 => by simp [execOp, oev_sound ag hx, Instr.extract, hv]) h
  case call c =>
    obtain ⟨callee, args, argTypes⟩ := c
    unfold callW at h
    replace h := mO_some h; obtain ⟨vs, hvs, h⟩ := h
    cases callee with
    | builtin b =>
      show Yld P (pureBuiltin P b argTypes.toList) _ K w
      simp only [execOp, resolve, eval_map ag hvs, invoke, pure_bind]
      exact yld_builtin h
    | value f => simp at hv
    | invoke r n => simp at hv
  all_goals first | exact h.elim | (simp at hv; done)
end
end Go.Ev
