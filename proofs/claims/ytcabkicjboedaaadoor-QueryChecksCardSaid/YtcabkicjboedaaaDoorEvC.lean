import Derived.Test.YtcabkicjboedaaaDoorEvB
namespace Go.Ev
open Go

theorem exec_v {P : Program} {w w' : World} {v : Value} {s : Sem Value} (h : s.run P w = .ok v w') : (do pure (Next.value (← s)) : Sem Next).run P w = .ok (.value v) w' := by simp [h]

theorem partsAt_run {pl : Nat → Option (Nat × Nat)} : ∀ {ps : List (Nat × Value)} {qs : List (Nat × Nat × Value)} {cs : Array Value} {ds : List Value}, partsAt pl ps = some qs → fillL cs.toList qs = some ds → Instr.fill pl cs ps = some ds.toArray
  | [], qs, cs, ds, h, hf => by
    simp [partsAt] at h; subst h; simp [fillL] at hf; subst hf; simp [Instr.fill]
  | (i, v) :: ps, qs, cs, ds, h, hf => by
    simp only [partsAt] at h
    split at h
    · cases h
    · rename_i off size hpl
      split at h
      · cases h
      · rename_i l hl
        cases h
        simp only [fillL, cond_eq_ite, Bool.and_eq_true] at hf
        split at hf
        · rename_i hc
          obtain ⟨h1, h2⟩ := hc
          have h1 : v.cells.size = size := by simpa using h1
          have h2 : off + size ≤ cs.toList.length := Nat.le_of_ble_eq_true h2
          simp only [Instr.fill, hpl]
          rw [if_neg (by simp [h1]; simpa using h2)]
          refine partsAt_run hl ?_
          have key : ∀ (us : List Value) (k : Nat) (cs : Array Value), off + k + us.length ≤ cs.size →
              ((us.zipIdx k).foldl (fun cs (x : Value × Nat) => cs.setIfInBounds (off + x.2) x.1) cs).toList = putAt cs.toList (off + k) us := by
            intro us
            induction us with
            | nil => intro k cs _; simp [putAt]
            | cons u us ih =>
              intro k cs hle
              simp only [List.zipIdx_cons, List.foldl_cons]
              rw [ih (k + 1) _ (by simp at hle ⊢; omega)]
              simp only [putAt, Array.toList_setIfInBounds, List.length_cons]
              have hlen : off + k < cs.toList.length := by simp at hle ⊢; omega
              have e1 : (cs.toList.set (off + k) u).take (off + (k + 1)) = cs.toList.take (off + k) ++ [u] := by
                rw [show off + (k + 1) = (off + k) + 1 by omega, List.take_succ_eq_append_getElem (by simpa using hlen)]
                simp [List.take_set_of_le]
              have e2 : (cs.toList.set (off + k) u).drop (off + (k + 1) + us.length) = cs.toList.drop (off + k + (us.length + 1)) := by
                rw [List.drop_set_of_lt (by omega)]; congr 1; omega
              rw [e1, e2]; simp
          have hk := key v.cells.toList 0 cs (by simpa [h1] using h2)
          have e3 : (v.cells.zipIdx.foldl (fun cs (x : Value × Nat) => cs.setIfInBounds (off + x.2) x.1) cs) = (v.cells.toList.zipIdx.foldl (fun cs (x : Value × Nat) => cs.setIfInBounds (off + x.2) x.1) cs) := by
            rw [← Array.foldl_toList]; simp
          have hk' : (v.cells.zipIdx.foldl (fun cs (c, j) => cs.setIfInBounds (off + j) c) cs).toList = putAt cs.toList off v.cells.toList := by
            have := e3 ▸ hk
            simpa using this
          rw [hk']; exact hf
        · cases hf

theorem zrow_length (z : List Value) : ∀ n, (zrow z n).length = n * z.length
  | 0 => by simp [zrow]
  | n + 1 => by simp [zrow, zrow_length z n, Nat.add_mul]; omega
theorem zrow_get (z : List Value) : ∀ (n i : Nat), i < n * z.length → (zrow z n)[i]? = z[i % z.length]?
  | 0, i, h => by simp at h
  | n + 1, i, h => by
    have hp : 0 < z.length := by
      rcases Nat.eq_zero_or_pos z.length with h0 | h0
      · simp [h0] at h
      · exact h0
    by_cases hi : i < z.length
    · simp [zrow, List.getElem?_append_left hi, Nat.mod_eq_of_lt hi]
    · rw [zrow, List.getElem?_append_right (by omega), zrow_get z n (i - z.length) (by rw [Nat.add_mul] at h; omega), ← Nat.mod_eq_sub_mod (by omega)]
theorem zrow_range (z : Array Value) (n : Nat) : (Array.range (n * z.size)).map (fun i => z[i % z.size]!) = (zrow z.toList n).toArray := by
  apply Array.ext'
  apply List.ext_getElem?
  intro i
  by_cases hi : i < n * z.size
  · have hp : 0 < z.size := by
      rcases Nat.eq_zero_or_pos z.size with h0 | h0
      · simp [h0] at hi
      · exact h0
    have := zrow_get z.toList n i (by simpa using hi)
    simp only [Array.length_toList] at this
    rw [this]
    have hm : i % z.size < z.size := Nat.mod_lt _ hp
    simp [hi, hm]
  · have h1 : (zrow z.toList n).length ≤ i := by rw [zrow_length]; simp; omega
    rw [List.getElem?_eq_none (by simpa using hi), List.getElem?_eq_none (by simpa using h1)]

section
variable {P : Program} {w : World}

theorem run_loadAt1 {t : TypeId} {a : Addr} {v : Value} (hs : shp P t = some none) (h : w.cell? a = some v) : (Instr.loadAt t (.pointer (some a))).run P w = .ok v w := by
  unfold shp at hs
  split at hs
  · cases hs
  · rename_i d hd
    split at hs
    · cases hs
    · rename_i i hi
      have hb : isAggD d = false := by cases hb : isAggD d <;> simp [hb] at hs ⊢
      simp [Instr.loadAt, Instr.sureAddr, loadVar, run_isAgg' hd, hb, h]
theorem run_loadAtN {t : TypeId} {a : Addr} {n : Nat} {cs : List Value} (hs : shp P t = some (some n)) (h : cellsAt w a 0 n = some cs) : (Instr.loadAt t (.pointer (some a))).run P w = .ok (.agg cs.toArray) w := by
  unfold shp at hs
  split at hs
  · cases hs
  · rename_i d hd
    split at hs
    · cases hs
    · rename_i i hi
      have hb : isAggD d = true := by cases hb : isAggD d <;> simp [hb] at hs ⊢
      simp [hb] at hs
      subst hs
      have hl := run_loadCellsFrom_cells (P := P) i.size 0 #[] cs h
      simp [Instr.loadAt, Instr.sureAddr, loadVar, run_isAgg' hd, hb, run_sizeOf' hi, loadCells, hl]
theorem run_part {t : TypeId} {cs : Array Value} {off : Nat} {K : Value → Prop} (h : partW (shp P t) cs off K) : ∃ v, (∀ w, (part t cs off).run P w = .ok v w) ∧ K v := by
  cases hs : shp P t with
  | none => rw [hs] at h; exact h.elim
  | some s =>
    rw [hs] at h
    have hs' := hs
    unfold shp at hs
    split at hs
    · cases hs
    · rename_i d hd
      split at hs
      · cases hs
      · rename_i i hi
        cases s with
        | none =>
          obtain ⟨v, hv, hk⟩ := mO_some h
          have hb : isAggD d = false := by cases hb : isAggD d <;> simp [hb] at hs ⊢
          exact ⟨v, fun w => by simp [part, run_isAgg' hd, hb, hv], hk⟩
        | some n =>
          have hb : isAggD d = true := by cases hb : isAggD d <;> simp [hb] at hs ⊢
          simp [hb] at hs
          subst hs
          exact ⟨_, fun w => by simp [part, run_isAgg' hd, hb, run_sizeOf' hi], h⟩
theorem fieldOff_spec {s f off : Nat} {ft : TypeId} (h : fieldOff P s f = some (off, ft)) : ∃ fields fd, P.underlying s = some (.struct fields) ∧ fields[f]? = some fd ∧ fd.offset = off ∧ fd.type = ft := by
  unfold fieldOff at h
  split at h
  · rename_i fields hu
    split at h
    · cases h
    · rename_i fd hfd
      cases h
      exact ⟨fields, fd, hu, by simpa using hfd, rfl, rfl⟩
  · cases h
theorem run_fieldAt {s f off n : Nat} {ft : TypeId} {a : Addr} (h : fieldOff P s f = some (off, ft)) (hn : sizeO P ft = some n) (h0 : n ≠ 0) : (Instr.fieldAt s (.pointer (some a)) f).run P w = .ok (.pointer (some (a.add off))) w := by
  obtain ⟨fields, fd, hu, hf, rfl, rfl⟩ := fieldOff_spec h
  simp [Instr.fieldAt, run_underlying hu, hf, Instr.sureAddr, fieldPlace, run_size' hn, h0]
theorem run_field {s f off : Nat} {ft : TypeId} {cs : Array Value} {K : Value → Prop} (h : fieldOff P s f = some (off, ft)) (hp : partW (shp P ft) cs off K) : ∃ v, (∀ w, (Instr.field s (.agg cs) f).run P w = .ok v w) ∧ K v := by
  obtain ⟨fields, fd, hu, hf, rfl, rfl⟩ := fieldOff_spec h
  obtain ⟨v, hv, hk⟩ := run_part hp
  exact ⟨v, fun w => by simp [Instr.field, run_underlying hu, hf, asAgg, hv], hk⟩

theorem binOp_int {op : BinOp} {k : IntKind} {t : TypeId} {x y : Int} {v : Value} {p q : Operand} (h : intBin k x y op = some v) : (do eqGuard op t p q (.int k x) (.int k y); binOp op t (.int k x) (.int k y) : Sem Value).run P w = .ok v w := by
  cases op <;> simp [intBin] at h <;> subst h <;> simp [eqGuard, binOp, Op.intArith, Op.intBits, Op.intCmp]
theorem binOp_intW {op : BinOp} {k : IntKind} {t : TypeId} {a b : Value} {p q : Operand} {K : Value → Prop} (h : intW k op a b K) : ∃ v, (∀ w, (do eqGuard op t p q a b; binOp op t a b : Sem Value).run P w = .ok v w) ∧ K v := by
  unfold intW at h
  split at h
  · replace h := mIntK_spec h; obtain ⟨x, rfl, h⟩ := h
    replace h := mInt_spec h; obtain ⟨k', y, rfl, h⟩ := h
    refine ⟨_, fun w => ?_, h.2⟩
    simp [eqGuard, binOp, Op.shift, Int.not_lt.2 h.1]
  · replace h := mIntK_spec h; obtain ⟨x, rfl, h⟩ := h
    replace h := mInt_spec h; obtain ⟨k', y, rfl, h⟩ := h
    refine ⟨_, fun w => ?_, h.2⟩
    simp [eqGuard, binOp, Op.shift, Int.not_lt.2 h.1]
  · replace h := mIntK_spec h; obtain ⟨x, rfl, h⟩ := h
    replace h := mIntK_spec h; obtain ⟨y, rfl, h⟩ := h
    refine ⟨_, fun w => ?_, h.2⟩
    simp [eqGuard, binOp, Op.intDiv, h.1]
  · replace h := mIntK_spec h; obtain ⟨x, rfl, h⟩ := h
    replace h := mIntK_spec h; obtain ⟨y, rfl, h⟩ := h
    refine ⟨_, fun w => ?_, h.2⟩
    simp [eqGuard, binOp, Op.intDiv, h.1]
  · replace h := mIntK_spec h; obtain ⟨x, rfl, h⟩ := h
    replace h := mIntK_spec h; obtain ⟨y, rfl, h⟩ := h
    replace h := mO_some h; obtain ⟨v, hv, h⟩ := h
    exact ⟨v, fun w => binOp_int hv, h⟩
theorem binOp_strW {op : BinOp} {t : TypeId} {a b : Value} {p q : Operand} {K : Value → Prop} (h : strW op a b K) : ∃ v, (∀ w, (do eqGuard op t p q a b; binOp op t a b : Sem Value).run P w = .ok v w) ∧ K v := by
  unfold strW at h
  split at h
  · replace h := mStr_spec h; obtain ⟨x, rfl, h⟩ := h
    replace h := mStr_spec h; obtain ⟨y, rfl, h⟩ := h
    refine ⟨_, fun w => ?_, h.2⟩
    have h1 : x.size + y.size ≤ 9223372036854775807 := h.1
    have h2 : ¬ (((x.size + y.size : Nat) : Int) > IntKind.i64.max) := by
      have : IntKind.i64.max = 9223372036854775807 := rfl
      omega
    simp only [eqGuard, binOp, Op.stringOp, if_neg h2]
    simp
  · replace h := mStr_spec h; obtain ⟨x, rfl, h⟩ := h
    replace h := mStr_spec h; obtain ⟨y, rfl, h⟩ := h
    replace h := mO_some h; obtain ⟨v, hv, h⟩ := h
    refine ⟨v, fun w => ?_, h⟩
    cases op <;> simp [strBin] at hv <;> subst hv <;> simp [eqGuard, binOp, Op.stringOp]
theorem run_equal_bool {t : TypeId} {x y : Bool} (ht : P.underlying t = some .bool) : (Op.equal t (.bool x) (.bool y)).run P w = .ok (x == y) w := by
  unfold Op.equal Op.maxDepth
  rw [Op.equalIn]
  simp [run_underlying ht]
theorem binOp_boolW {op : BinOp} {t : TypeId} {x y : Bool} {p q : Operand} {v : Value} (ht : P.underlying t = some .bool) (h : boolBin x y op = some v) : (do eqGuard op t p q (.bool x) (.bool y); binOp op t (.bool x) (.bool y) : Sem Value).run P w = .ok v w := by
  cases op <;> simp [boolBin] at h <;> subst h <;> simp [eqGuard, binOp, run_equal_bool ht]
def plainD : Option TypeDesc → Bool
  | some (.int _) | some .string | some .bool => true
  | _ => false
theorem run_binW {op : BinOp} {t : TypeId} {x y : Operand} {a b : Value} {K : Value → World → Prop} (h : binW P op t (isC x) (isC y) a b K w) :
    ∃ v w', (do eqGuard op t x y a b; binOp op t a b : Sem Value).run P w = .ok v w' ∧ K v w' ∧ (plainD (P.underlying t) = true → ∀ w1, (do eqGuard op t x y a b; binOp op t a b : Sem Value).run P w1 = .ok v w1) ∧ (plainD (P.underlying t) = true → w' = w) := by
  unfold binW at h
  split at h
  · obtain ⟨v, hv, h⟩ := binOp_intW (P := P) (t := t) (p := x) (q := y) h
    exact ⟨v, w, hv w, h, fun _ => hv, fun _ => rfl⟩
  · obtain ⟨v, hv, h⟩ := binOp_strW (P := P) (t := t) (p := x) (q := y) h
    exact ⟨v, w, hv w, h, fun _ => hv, fun _ => rfl⟩
  · rename_i hu
    replace h := mBool_spec h; obtain ⟨u, rfl, h⟩ := h
    replace h := mBool_spec h; obtain ⟨z, rfl, h⟩ := h
    replace h := mO_some h; obtain ⟨v, hv, h⟩ := h
    exact ⟨v, w, binOp_boolW hu hv, h, fun _ w1 => binOp_boolW hu hv, fun _ => rfl⟩
  · rename_i h1 h2 h3
    obtain ⟨v, w', hr, hk⟩ := semV_spec h
    rw [eqGuard_flag] at hr
    have hp : plainD (P.underlying t) = false := by
      unfold plainD
      split <;> first | rfl | (rename_i hh; first | exact absurd hh (h1 _) | exact absurd hh h2 | exact absurd hh h3)
    exact ⟨v, w', hr, hk, by simp [hp], by simp [hp]⟩
theorem run_unW {op : UnOp} {d : Option TypeDesc} {a : Value} {K : Value → Prop} (h : unW op d a K) : ∃ v, (∀ w, (Op.unary op a).run P w = .ok v w) ∧ K v := by
  unfold unW at h
  split at h
  · replace h := mIntK_spec h; obtain ⟨x, rfl, h⟩ := h
    exact ⟨_, fun w => by simp [Op.unary, Op.intArith], h⟩
  · replace h := mIntK_spec h; obtain ⟨x, rfl, h⟩ := h
    exact ⟨_, fun w => by simp only [Op.unary, Op.intBits, Sem.run_pure], h⟩
  · replace h := mBool_spec h; obtain ⟨x, rfl, h⟩ := h
    exact ⟨_, fun w => by simp [Op.unary], h⟩
  · exact h.elim
def pureConv (P : Program) (s d : TypeId) : Bool := match P.underlying s, P.underlying d with
  | some (.int _), some (.int _) => true
  | some .string, some .string => true
  | _, _ => false
theorem run_convW {s d : TypeId} {x : Value} {K : Value → World → Prop} (h : convW P s d x K w) : ∃ v w', (convert s d x).run P w = .ok v w' ∧ K v w' ∧ (pureConv P s d = true → (∀ w1, (convert s d x).run P w1 = .ok v w1) ∧ w' = w) := by
  unfold convW at h
  split at h
  · rename_i k k' hs hd
    replace h := mInt_spec h; obtain ⟨j, n, rfl, h⟩ := h
    have hr : ∀ w1, (convert s d (.int j n)).run P w1 = .ok (.int k' (k'.wrap n)) w1 := fun w1 => by simp [convert, run_underlying hs, run_underlying hd, Conv.intToInt]
    exact ⟨_, w, hr w, h, fun _ => ⟨hr, rfl⟩⟩
  · rename_i hs hd
    replace h := mStr_spec h; obtain ⟨b, rfl, h⟩ := h
    have hr : ∀ w1, (convert s d (.string b)).run P w1 = .ok (.string b) w1 := fun w1 => by simp [convert, run_underlying hs, run_underlying hd]
    exact ⟨_, w, hr w, h, fun _ => ⟨hr, rfl⟩⟩
  · rename_i h1 h2
    obtain ⟨v, w', hr, hk⟩ := semV_spec h
    have hp : pureConv P s d = false := by
      unfold pureConv
      split <;> first | rfl | (rename_i e1 e2; first | exact absurd e2 (h1 _ _ e1) | exact absurd e2 (h2 e1))
    exact ⟨v, w', hr, hk, by simp [hp]⟩
theorem loW_spec {lo : Option Value} {K : Int → Prop} (h : loW lo K) : ∃ l, K l ∧ ((lo = none ∧ l = 0) ∨ ∃ k, lo = some (.int k l)) := by
  cases lo with
  | none => exact ⟨0, h, .inl ⟨rfl, rfl⟩⟩
  | some v => replace h := mInt_spec h; obtain ⟨k, n, rfl, h⟩ := h; exact ⟨n, h, .inr ⟨k, rfl⟩⟩
theorem hiW_spec {lo : Option Value} {n : Nat} {K : Int → Prop} (h : hiW lo n K) : ∃ l, K l ∧ ((lo = none ∧ l = n) ∨ ∃ k, lo = some (.int k l)) := by
  cases lo with
  | none => exact ⟨n, h, .inl ⟨rfl, rfl⟩⟩
  | some v => replace h := mInt_spec h; obtain ⟨k, n, rfl, h⟩ := h; exact ⟨n, h, .inr ⟨k, rfl⟩⟩
theorem run_sliceBounds {isSlice : Bool} {n c : Nat} {lo hi : Option Value} {l h : Int} (hl : (lo = none ∧ l = 0) ∨ ∃ k, lo = some (.int k l)) (hh : (hi = none ∧ h = n) ∨ ∃ k, hi = some (.int k h))
    (h0 : 0 ≤ l) (h1 : l ≤ h) (h2 : h ≤ c) : (Instr.sliceBounds isSlice n c lo hi none).run P w = .ok (l.toNat, h.toNat, c) w := by
  have e : ((h.toNat : Nat) : Int) = h := Int.toNat_of_nonneg (by omega)
  rcases hl with ⟨rfl, rfl⟩ | ⟨k, rfl⟩ <;> rcases hh with ⟨rfl, rfl⟩ | ⟨k', rfl⟩
  · simp [Instr.sliceBounds]
  · simp [Instr.sliceBounds, Instr.sliceBound, asIntOf, h1, h2]
  · simp [Instr.sliceBounds, Instr.sliceBound, asIntOf, h0, h1]
  · simp [Instr.sliceBounds, Instr.sliceBound, asIntOf, h0, h1, h2, e, show (0 : Int) ≤ h by omega]
theorem elemSize_slice {e : TypeId} {n : Nat} (h : elemSize P (some (.slice e)) = some n) : (sizeOf e).run P w = .ok n w := run_size' h
theorem run_sliceW {t : TypeId} {x : Value} {lo hi : Option Value} {K : Value → Prop} (h : sliceW (P.underlying t) (elemSize P (P.underlying t)) x lo hi K) : ∃ v, (∀ w, (Instr.sliceAt t x lo hi none).run P w = .ok v w) ∧ K v := by
  unfold sliceW at h
  split at h
  · rename_i hu
    replace h := mStr_spec h; obtain ⟨s, rfl, h⟩ := h
    replace h := loW_spec h; obtain ⟨l, h, hl⟩ := h
    replace h := hiW_spec h; obtain ⟨g, h, hh⟩ := h
    obtain ⟨⟨h0, h1, h2⟩, hk⟩ := h
    refine ⟨_, fun w => ?_, hk⟩
    simp [Instr.sliceAt, Instr.slice, run_underlying hu, run_sliceBounds hl hh h0 h1 h2]
  · rename_i e hu
    replace h := mO_some h; obtain ⟨size, hs, h⟩ := h
    rw [hu] at hs
    replace h := mSlice_spec h; obtain ⟨a, n, c, rfl, h⟩ := h
    replace h := loW_spec h; obtain ⟨l, h, hl⟩ := h
    replace h := hiW_spec h; obtain ⟨g, h, hh⟩ := h
    obtain ⟨⟨h0, h1, h2⟩, hk⟩ := h
    refine ⟨_, fun w => ?_, hk⟩
    simp [Instr.sliceAt, Instr.slice, run_underlying hu, run_sliceBounds hl hh h0 h1 h2, elemSize_slice hs]
  · rename_i n e hu
    replace h := mO_some h; obtain ⟨size, hs, h⟩ := h
    rw [hu] at hs
    replace h := mPtr_spec h; obtain ⟨a, rfl, h⟩ := h
    replace h := loW_spec h; obtain ⟨l, h, hl⟩ := h
    replace h := hiW_spec h; obtain ⟨g, h, hh⟩ := h
    obtain ⟨⟨h0, h1, h2⟩, hk⟩ := h
    refine ⟨_, fun w => ?_, hk⟩
    have hz : (sizeOf e).run P w = .ok size w := run_size' hs
    simp [Instr.sliceAt, run_underlying hu, Instr.sureAddr, run_sliceBounds hl hh h0 h1 h2, hz]
  · exact h.elim
theorem run_indexAddrW {t : TypeId} {x i : Value} {K : Value → Prop} (h : indexAddrW (P.underlying t) (elemSize P (P.underlying t)) x i K) : ∃ v, (∀ w, (Instr.indexAt t x i).run P w = .ok v w) ∧ K v := by
  unfold indexAddrW at h
  split at h
  · rename_i e hu
    replace h := mO_some h; obtain ⟨size, hs, h⟩ := h
    rw [hu] at hs
    replace h := mSlice_spec h; obtain ⟨a, n, c, rfl, h⟩ := h
    replace h := mInt_spec h; obtain ⟨k, j, rfl, h⟩ := h
    replace h := mO_some h; obtain ⟨a, rfl, h⟩ := h
    obtain ⟨⟨h0, h1⟩, hk⟩ := h
    refine ⟨_, fun w => ?_, hk⟩
    have hz : (sizeOf e).run P w = .ok size w := run_size' hs
    simp [Instr.indexAt, asIntOf, run_underlying hu, h0, h1, hz]
  · rename_i n e hu
    replace h := mO_some h; obtain ⟨size, hs, h⟩ := h
    rw [hu] at hs
    replace h := mPtr_spec h; obtain ⟨a, rfl, h⟩ := h
    replace h := mInt_spec h; obtain ⟨k, j, rfl, h⟩ := h
    obtain ⟨⟨h0, h1⟩, hk⟩ := h
    refine ⟨_, fun w => ?_, hk⟩
    have hz : (sizeOf e).run P w = .ok size w := run_size' hs
    simp [Instr.indexAt, asIntOf, run_underlying hu, Instr.sureAddr, h0, h1, hz]
  · exact h.elim
theorem run_indexW {t : TypeId} {x i : Value} {K : Value → Prop} (h : indexW P (P.underlying t) x i K) : ∃ v, (∀ w, (Instr.index t x i).run P w = .ok v w) ∧ K v := by
  unfold indexW at h
  split at h
  · rename_i n e hu
    replace h := mO_some h; obtain ⟨size, hs, h⟩ := h
    replace h := mAgg_spec h; obtain ⟨cs, rfl, h⟩ := h
    replace h := mInt_spec h; obtain ⟨k, j, rfl, h⟩ := h
    obtain ⟨⟨h0, h1⟩, hk⟩ := h
    obtain ⟨v, hv, hk⟩ := run_part hk
    refine ⟨v, fun w => ?_, hk⟩
    have hz : (sizeOf e).run P w = .ok size w := run_size' hs
    simp [Instr.index, asIntOf, run_underlying hu, h0, h1, hz, hv]
  · rename_i hu
    replace h := mStr_spec h; obtain ⟨s, rfl, h⟩ := h
    replace h := mInt_spec h; obtain ⟨k, j, rfl, h⟩ := h
    obtain ⟨h0, h⟩ := h
    obtain ⟨b, hb, hk⟩ := mO_some h
    refine ⟨_, fun w => ?_, hk⟩
    simp [Instr.index, asIntOf, run_underlying hu, h0, hb]
  · exact h.elim
end
end Go.Ev
