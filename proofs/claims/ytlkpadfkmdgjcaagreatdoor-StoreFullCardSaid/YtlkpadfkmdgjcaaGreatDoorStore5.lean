/-
Lemmas for the statements of this seat: no statement of the seat is proved in this part (5 of 6); the conditions stand in each theorem.
-/
import Derived.Test.YtlkpadfkmdgjcaaGreatDoorStore4
import Derived.Test.YtlkpadfkmdgjcaaGreatDoorProg
import Derived.Lib.ConvBytes
import Derived.DeepKeys
import Derived.Laws.StructEq
section
set_option linter.unusedSimpArgs false
set_option linter.unusedVariables false
namespace Go.Proofs.YtlkpadfkmdgjcaaGreatDoor
open Go Go.Ev
set_option linter.unusedVariables false
set_option linter.unusedSimpArgs false
set_option maxRecDepth 100000
attribute [local irreducible] kO kB kStr kInt kN kG kIf kfld kld kldN kst knew kmap kbld kbldS kext kcnv klenStr klen kcap kprt kprtN kbool kint kstr keq kun ksl kix kiv kta kmk kmm ksem ksemU kextf kcallV kcallM kcall kL

/-! ### An entity goes from table to table -/
def layA (S : SM) : SM := layS S (S.masks.length - S.tabs.length)
/-- What a function value does that turns parts: it leaves these, in the list's own block or a new one. -/
def Turns (w : World) (bc : Nat) (f : FuncId) (caps : Array Value) (L L2 : List Part) : Prop :=
  ∀ (w1 : World) (sv : Value), w.heap.size ≤ w1.heap.size → blk w1 bc = blk w bc → (∀ k, vblk sv k → w.heap.size ≤ k) → Own w1 sv 6 (L.flatMap Part.cells) →
    Meets Tryz.prog f (#[sv] ++ caps) w1 fun v w2 => Own w2 v 6 (L2.flatMap Part.cells) ∧ Mod (vblk sv) w1 w2 ∧ ∀ k, vblk v k → vblk sv k ∨ w1.heap.size ≤ k
theorem sMove_spec {o : Lab} {w : World} (hD : DeAt w) {b : Nat} {p : Ptrs} {S : SM} (h : StoreP o w b p S) (hDo : o 18 = none) {i : Nat} {g : Int} {n r m nd : Nat} {gm : Int} (hs : S.spots[i]? = some (n, r)) (hn : n < (layA S).tabs.length) (hr : r < (layA S).tabs[n].rows.length) (hcol : ∀ c ∈ compsM S.masks n, ((layA S).tabs[n].col c).length = (layA S).tabs[n].rows.length)
    (hlast : (layA S).tabs[n].rows[(layA S).tabs[n].rows.length - 1]'(by omega) = ((m : Int), gm)) (hm : m < S.spots.length) (hrl : (layA S).tabs[n].rows.length ≤ 1000000)
    {bc : Nat} (hbc : bc < w.heap.size) (hbo : o bc = none) {f : FuncId} {caps : Array Value} {L2 : List Part} (hT : Turns w bc f caps ((compsM S.masks n).map (partAt (layA S).tabs[n] r)) L2)
    (hnd : nd < (leaveS (layA S) n r m hn).tabs.length) (hn16 : L2.length ≤ 64) (hf : ∀ q ∈ L2, FitsP S.cs q) (hin : ∀ q ∈ L2, ∃ c : Nat, q.comp = (c : Int) ∧ c ∈ compsM S.masks nd) (hcol2 : ∀ c ∈ compsM S.masks nd, ((leaveS (layA S) n r m hn).tabs[nd].col c).length + L2.length < 1000000) (hrows2 : (leaveS (layA S) n r m hn).tabs[nd].rows.length < 1000000) :
    Meets Tryz.prog 84 #[ptrV b, entV i g, natV nd, .func (.func f) #[] caps] w fun v w' => v = .nilIface ∧ Turned o w b (enterS (leaveS (layA S) n r m hn) nd i g L2 hnd) w' := by
  have hi : i < S.spots.length := (List.getElem?_eq_some_iff.1 hs).1
  refine f84_ok ?_
  unfold f84
  refine knew_of fun w2 hm2 hs2 hb2 => ?_
  have hb2 : blk w2 w.heap.size = some (.cells #[.int .i64 i, .int .i64 g] 37) := hb2
  have hP2 := h.cut hm2
  have hcutn : ∀ k, w.heap.size ≤ k → cutL o w.heap.size k = none := fun k hk => cutL_none hk
  have hDo0 : cutL o w.heap.size 18 = none := by
    unfold cutL; split
    · exact hDo
    · rfl
  have hbo0 : cutL o w.heap.size bc = none := by
    unfold cutL; rw [if_pos hbc]; exact hbo
  refine kcall_of (sLay_spec (hD.same hm2) hP2 hDo0) ?_
  rintro v w4 ⟨rfl, o1, p1, hl1, hP4, hm4, hc4⟩
  have hP4 : StoreP o1 w4 b p1 (layA S) := hP4
  have hsz4 := hm4.size
  have hu1 : ∀ k, k < w2.heap.size → cutL o w.heap.size k = none → o1 k = none := fun k hk e => by rw [hl1 k hk]; exact e
  have hb4 := hm4.get hb2 (fun ⟨t, e1, _⟩ => by rw [hcutn _ (Nat.le_refl _)] at e1; cases e1)
  rw [keq_nil_nil' ifErr]
  refine kB_at ?_
  refine kIf_F rfl ?_
  unfold f84_0
  repeat (first | refine kN_at ?_ | refine kB_at ?_ | refine kfld_of ?_ | refine kext_at rfl ?_ | refine kld_at hb4 rfl ?_ | refine kldN_at hb4 rfl (by omega) ?_ | refine kG_of (by first | exact rfl | omega) ?_ | refine klen_at ?_ | refine eql_at ?_ | refine neq_at ?_ | refine lss_at ?_ | refine leq_at ?_ | refine gtr_at ?_ | refine geq_at ?_ | refine add_at (by omega) (by omega) ?_ | refine sub_at (by omega) (by omega) ?_ | refine not_at ?_ | refine kO_at ?_ | refine kprt_at rfl ?_ | refine kprtN_at rfl ?_ | refine kcap_at ?_ | refine klenStr_at ?_ | refine kN_iat ?_ | refine kN_fat ?_ | refine kIf_T (by first | exact rfl | exact decT (by omega) | exact notT (decF (by omega))) ?_ | refine kIf_F (by first | exact rfl | exact decF (by omega) | exact notF (decT (by omega))) ?_)
  refine kcall_of (sLeave_spec hP4 (g := g) (gm := gm) hs hn hr hcol hlast hm hrl) ?_
  rintro v w9 ⟨sv, rfl, hOs, hfs, hP9, hm9⟩
  have hsz9 := hm9.size
  have hb9 := hm9.get hb4 (fun ⟨t, e1, _⟩ => by rw [hu1 _ (by omega) (hcutn _ (Nat.le_refl _))] at e1; cases e1)
  have hbc9 : blk w9 bc = blk w bc := by
    have e1 : blk w2 bc = blk w bc := hm2.kept bc hbc (fun h => h)
    have e2 : blk w4 bc = blk w2 bc := hm4.kept bc (by omega) (fun ⟨t, e1, _⟩ => by rw [hbo0] at e1; cases e1)
    have e3 : blk w9 bc = blk w4 bc := hm9.kept bc (by omega) (fun ⟨t, e1, _⟩ => by rw [hu1 _ (by omega) hbo0] at e1; cases e1)
    rw [e3, e2, e1]
  repeat (first | refine kN_at ?_ | refine kB_at ?_ | refine kfld_of ?_ | refine kext_at rfl ?_ | refine kG_of (by first | exact rfl | omega) ?_ | refine klen_at ?_ | refine eql_at ?_ | refine neq_at ?_ | refine lss_at ?_ | refine leq_at ?_ | refine gtr_at ?_ | refine geq_at ?_ | refine add_at (by omega) (by omega) ?_ | refine sub_at (by omega) (by omega) ?_ | refine not_at ?_ | refine kO_at ?_ | refine kprt_at rfl ?_ | refine kprtN_at rfl ?_ | refine kcap_at ?_ | refine klenStr_at ?_ | refine kN_iat ?_ | refine kN_fat ?_ | refine kIf_T (by first | exact rfl | exact decT (by omega) | exact notT (decF (by omega))) ?_ | refine kIf_F (by first | exact rfl | exact decF (by omega) | exact notF (decT (by omega))) ?_)
  rw [keq_nil_nil' ifErr]
  refine kB_at ?_
  refine kIf_F rfl ?_
  unfold f84_1
  have md : Same w9 w9.drew := (Mod.refl (fun _ => False) _).drew
  have hb9 := md.get hb9 (fun h => h)
  have hbc9 : blk w9.drew bc = blk w bc := hbc9
  have hOs := hOs.same md
  have hP9 := hP9.same md
  have hm9 := hm9.trans (Mod.of_same md)
  have hsz9 : w4.heap.size ≤ w9.drew.heap.size := hsz9
  generalize w9.drew = wa at *
  repeat (first | refine kN_at ?_ | refine kB_at ?_ | refine kfld_of ?_ | refine kext_at rfl ?_ | refine kld_at hb9 rfl ?_ | refine kldN_at hb9 rfl (by omega) ?_ | refine kG_of (by first | exact rfl | omega) ?_ | refine klen_at ?_ | refine eql_at ?_ | refine neq_at ?_ | refine lss_at ?_ | refine leq_at ?_ | refine gtr_at ?_ | refine geq_at ?_ | refine add_at (by omega) (by omega) ?_ | refine sub_at (by omega) (by omega) ?_ | refine not_at ?_ | refine kO_at ?_ | refine kprt_at rfl ?_ | refine kprtN_at rfl ?_ | refine kcap_at ?_ | refine klenStr_at ?_ | refine kN_iat ?_ | refine kN_fat ?_ | refine kIf_T (by first | exact rfl | exact decT (by omega) | exact notT (decF (by omega))) ?_ | refine kIf_F (by first | exact rfl | exact decF (by omega) | exact notF (decT (by omega))) ?_)
  refine kcallC_of (hT wa sv (by omega) hbc9 (fun k hk => by have := hfs k hk; omega) hOs) ?_
  rintro v w16 ⟨hOv, hm16, hfv⟩
  have hb16 := hm16.get hb9 (fun e => by have := hfs _ e; omega)
  refine kG_of (kldN_at hb16 rfl (by omega) ⟨rfl, rfl⟩) ?_
  have hP16 := hP9.frame hm16 (fun k t e ek => by rw [cutL_none (hfs k ek)] at e; cases e) (LabEq.refl _ _)
  obtain ⟨sa, sn, sc, rfl, hsl, _⟩ := hOv.is
  have hsn : sn = L2.length := by
    have := hsl.1
    rw [flat_len Part.cells 6 (fun _ => rfl)] at this
    omega
  subst hsn
  refine kcall_of (sEnter_spec hP16 hnd (i := i) (by simpa [leaveS, layA, layS] using hi) g hsl (fun k f e => cutL_none ((hfv k ⟨f, L2.length, sc, by rw [e]⟩).elim (fun h => hfs k h) (fun h => by omega))) hn16 hf hin hcol2 hrows2) ?_
  rintro v w18 ⟨rfl, h18⟩
  refine ⟨rfl, Turned.wrap hm2 ?_ (Mod.refl _ _)⟩
  refine Turned.seq (o1 := o1) (w1 := w4) hl1 hm4 (Mod.refl _ _) ?_
  exact Turned.seq (o1 := cutL o1 w4.heap.size) (w1 := w16) (LabEq.cut _ _) (hm9.trans' (hm16.mono fun k _ e => .inr (hfs k e))) (Mod.refl _ _) h18
end Go.Proofs.YtlkpadfkmdgjcaaGreatDoor
end
section
set_option linter.unusedSimpArgs false
set_option linter.unusedVariables false
namespace Go.Proofs.YtlkpadfkmdgjcaaGreatDoor
open Go Go.Ev
set_option linter.unusedVariables false
set_option linter.unusedSimpArgs false
set_option maxRecDepth 100000

/-! ### What fits together in a store -/
theorem takeRow_get {α : Type} (l : List α) {r : Nat} (hr : r < l.length) (x : Nat) : (takeRow l r)[x]? = if x < l.length - 1 then (if x = r then l[l.length - 1]? else l[x]?) else none := by
  rw [takeRow_eq (by omega), List.getElem?_take]
  by_cases hx : x < l.length - 1
  · rw [if_pos hx, if_pos hx, List.getElem?_set]
    by_cases h : x = r
    · subst h
      rw [if_pos rfl, if_pos hr, if_pos rfl, List.getElem?_eq_getElem]
    · rw [if_neg (fun e => h e.symm), if_neg h]
  · rw [if_neg hx, if_neg hx]
theorem takeRow_len {α : Type} (l : List α) {r : Nat} (hr : r < l.length) : (takeRow l r).length = l.length - 1 := by
  rw [takeRow_eq (by omega)]
  simp
structure WFe (S : SM) (ex : Nat → Prop) : Prop where
  gs : S.gens.length = S.spots.length
  live : ∀ i g, S.gens[i]? = some (g, true) → ¬ ex i → ∃ n r T, S.spots[i]? = some (n, r) ∧ S.tabs[n]? = some T ∧ T.rows[r]? = some ((i : Int), g)
  rows : ∀ n T r e, S.tabs[n]? = some T → T.rows[r]? = some e → ∃ i : Nat, e.1 = (i : Int) ∧ ¬ ex i ∧ S.gens[i]? = some (e.2, true) ∧ S.spots[i]? = some (n, r)
  cols : ∀ n T c, S.tabs[n]? = some T → c ∈ compsM S.masks n → (T.col c).length = T.rows.length
def WF (S : SM) : Prop := WFe S fun _ => False
/-- The parts of who stands at a spot. -/
def partsOf (S : SM) (i : Nat) : List Part := match S.spots[i]? with
  | some (n, r) => match S.tabs[n]? with
    | some T => (compsM S.masks n).map (partAt T r)
    | none => []
  | none => []
theorem partsOf_eq {S : SM} {i n r : Nat} {T : TabM} (h : S.spots[i]? = some (n, r)) (hT : S.tabs[n]? = some T) : partsOf S i = (compsM S.masks n).map (partAt T r) := by
  unfold partsOf; simp [h, hT]
theorem WFe.rows_le {S : SM} {ex : Nat → Prop} (h : WFe S ex) {n : Nat} {T : TabM} (hT : S.tabs[n]? = some T) : T.rows.length ≤ S.spots.length := by
  have hnd : ((List.range T.rows.length).map fun r => ((T.rows[r]?).getD (0, 0)).1.toNat).Nodup := by
    unfold List.Nodup
    rw [List.pairwise_map]
    refine List.nodup_range.imp_of_mem fun {a b} ha hb hab e => ?_
    have ha : a < T.rows.length := by simpa using ha
    have hb : b < T.rows.length := by simpa using hb
    obtain ⟨i, e1, _, _, s1⟩ := h.rows n T a _ hT (List.getElem?_eq_getElem ha)
    obtain ⟨j, e2, _, _, s2⟩ := h.rows n T b _ hT (List.getElem?_eq_getElem hb)
    simp only [List.getElem?_eq_getElem ha, List.getElem?_eq_getElem hb, Option.getD_some, e1, e2, Int.toNat_natCast] at e
    subst e
    rw [s1] at s2
    cases s2
    exact hab rfl
  have := List.Nodup.length_le_of_subset hnd (l₂ := List.range S.spots.length) (fun x hx => by
    obtain ⟨r, hr, rfl⟩ := List.mem_map.1 hx
    have hr : r < T.rows.length := by simpa using hr
    obtain ⟨i, e1, _, _, s1⟩ := h.rows n T r _ hT (List.getElem?_eq_getElem hr)
    simp only [List.getElem?_eq_getElem hr, Option.getD_some, e1, Int.toNat_natCast]
    simpa using (List.getElem?_eq_some_iff.1 s1).1)
  simpa using this
/-- Where one stands, as leave wants it. -/
theorem WFe.stand {S : SM} {ex : Nat → Prop} (h : WFe S ex) {i : Nat} {g : Int} (hg : S.gens[i]? = some (g, true)) (hx : ¬ ex i) : ∃ n r, S.spots[i]? = some (n, r) ∧ ∃ hn : n < S.tabs.length, ∃ hr : r < (S.tabs[n]).rows.length, (S.tabs[n]).rows[r] = ((i : Int), g) ∧
    ∃ (m : Nat) (gm : Int), (S.tabs[n]).rows[(S.tabs[n]).rows.length - 1]'(by omega) = ((m : Int), gm) ∧ m < S.spots.length ∧ S.spots[m]? = some (n, (S.tabs[n]).rows.length - 1) := by
  obtain ⟨n, r, T, h1, h2, h3⟩ := h.live i g hg hx
  obtain ⟨hn, e⟩ := List.getElem?_eq_some_iff.1 h2
  subst e
  obtain ⟨hr, e⟩ := List.getElem?_eq_some_iff.1 h3
  obtain ⟨m, e1, _, _, s1⟩ := h.rows n _ ((S.tabs[n]).rows.length - 1) _ h2 (List.getElem?_eq_getElem (by omega))
  refine ⟨n, r, h1, hn, hr, e, m, _, Prod.ext e1 rfl, (List.getElem?_eq_some_iff.1 s1).1, s1⟩
theorem leaveS_tabs {S : SM} {n r m : Nat} (hn : n < S.tabs.length) (k : Nat) : (leaveS S n r m hn).tabs[k]? = if k = n then some ⟨takeRow S.tabs[n].rows r, fun c => takeRow (S.tabs[n].col c) r⟩ else S.tabs[k]? := by
  unfold leaveS
  rw [List.getElem?_set]
  by_cases h : n = k
  · subst h; rw [if_pos rfl, if_pos hn, if_pos rfl]
  · rw [if_neg h, if_neg (fun e => h e.symm)]
theorem leaveS_spots {S : SM} {n r m : Nat} (hn : n < S.tabs.length) (hm : m < S.spots.length) (k : Nat) : (leaveS S n r m hn).spots[k]? = if k = m then some (n, r) else S.spots[k]? := by
  unfold leaveS
  rw [List.getElem?_set]
  by_cases h : m = k
  · subst h; rw [if_pos rfl, if_pos hm, if_pos rfl]
  · rw [if_neg h, if_neg (fun e => h e.symm)]
theorem WFe.leave {S : SM} (h : WF S) {i n r m : Nat} {g gm : Int} (hs : S.spots[i]? = some (n, r)) (hn : n < S.tabs.length) (hr : r < (S.tabs[n]).rows.length) (hri : (S.tabs[n]).rows[r] = ((i : Int), g))
    (hl : (S.tabs[n]).rows[(S.tabs[n]).rows.length - 1]'(by omega) = ((m : Int), gm)) (hm : m < S.spots.length) (hsm : S.spots[m]? = some (n, (S.tabs[n]).rows.length - 1)) :
    WFe (leaveS S n r m hn) (· = i) ∧ ∀ j gj, j ≠ i → S.gens[j]? = some (gj, true) → partsOf (leaveS S n r m hn) j = partsOf S j := by
  have hTn : S.tabs[n]? = some S.tabs[n] := List.getElem?_eq_getElem hn
  have hT' := leaveS_tabs (r := r) (m := m) hn
  have hS' := leaveS_spots (r := r) hn hm
  have hlq : (S.tabs[n]).rows[(S.tabs[n]).rows.length - 1]? = some ((m : Int), gm) := by rw [List.getElem?_eq_getElem (by omega), hl]
  have hrow := takeRow_get (S.tabs[n]).rows hr
  have hmi : m = i → r = (S.tabs[n]).rows.length - 1 := fun e => by subst e; rw [hs] at hsm; cases hsm; rfl
  have him : r = (S.tabs[n]).rows.length - 1 → m = i := fun e => by
    have : (S.tabs[n]).rows[r]? = some ((m : Int), gm) := by rw [e]; exact hlq
    rw [List.getElem?_eq_getElem hr, hri] at this
    simp at this; omega
  have key : ∀ j gj, j ≠ i → S.gens[j]? = some (gj, true) → ∃ n' r' T', (leaveS S n r m hn).spots[j]? = some (n', r') ∧ (leaveS S n r m hn).tabs[n']? = some T' ∧ T'.rows[r']? = some ((j : Int), gj) ∧
      ∃ r0 T0, S.spots[j]? = some (n', r0) ∧ S.tabs[n']? = some T0 ∧ ∀ c ∈ compsM S.masks n', (T'.col c)[r']? = (T0.col c)[r0]? := by
    intro j gj hj hgj
    obtain ⟨n', r', T', h1, h2, h3⟩ := h.live j gj hgj (fun h => h)
    by_cases hnn : n' = n
    · subst hnn
      rw [hTn] at h2; cases h2
      have hr'l := (List.getElem?_eq_some_iff.1 h3).1
      have hrr : r' ≠ r := fun e => by
        subst e
        rw [List.getElem?_eq_getElem hr, hri] at h3
        simp at h3; omega
      by_cases hlast : r' = (S.tabs[n']).rows.length - 1
      · have hjm : j = m := by
          rw [hlast, hlq] at h3
          simp at h3; omega
        subst hjm
        refine ⟨n', r, _, by rw [hS', if_pos rfl], by rw [hT', if_pos rfl], ?_, r', _, h1, hTn, fun c hc => ?_⟩
        · show (takeRow _ r)[r]? = _
          rw [hrow, if_pos (by omega), if_pos rfl, ← hlast, h3]
        · show (takeRow ((S.tabs[n']).col c) r)[r]? = _
          have hcl := h.cols n' _ c hTn hc
          rw [takeRow_get _ (by omega), hcl, if_pos (by omega), if_pos rfl, hlast]
      · refine ⟨n', r', _, by rw [hS', if_neg (fun e => by subst e; rw [hsm] at h1; cases h1; exact hlast rfl)]; exact h1, by rw [hT', if_pos rfl], ?_, r', _, h1, hTn, fun c hc => ?_⟩
        · show (takeRow _ r)[r']? = _
          rw [hrow, if_pos (by omega), if_neg hrr, h3]
        · show (takeRow ((S.tabs[n']).col c) r)[r']? = _
          have hcl := h.cols n' _ c hTn hc
          rw [takeRow_get _ (by omega), hcl, if_pos (by omega), if_neg hrr]
    · exact ⟨n', r', T', by rw [hS', if_neg (fun e => by subst e; rw [hsm] at h1; cases h1; exact hnn rfl)]; exact h1, by rw [hT', if_neg hnn]; exact h2, h3, r', T', h1, h2, fun c _ => rfl⟩
  refine ⟨⟨?_, ?_, ?_, ?_⟩, ?_⟩
  · show S.gens.length = (S.spots.set m (n, r)).length
    rw [List.length_set]; exact h.gs
  · intro j gj hgj hj
    obtain ⟨n', r', T', k1, k2, k3, _⟩ := key j gj hj hgj
    exact ⟨n', r', T', k1, k2, k3⟩
  · intro n' T' r' e hTq hre
    rw [hT'] at hTq
    by_cases hnn : n' = n
    · subst hnn
      rw [if_pos rfl] at hTq
      cases hTq
      have hre : (takeRow (S.tabs[n']).rows r)[r']? = some e := hre
      rw [hrow] at hre
      by_cases hlt : r' < (S.tabs[n']).rows.length - 1
      · rw [if_pos hlt] at hre
        by_cases hrr : r' = r
        · subst hrr
          rw [if_pos rfl, hlq] at hre
          cases hre
          obtain ⟨m', e1, _, e3, e4⟩ := h.rows n' _ _ _ hTn hlq
          have : m' = m := by simp at e1; omega
          subst this
          exact ⟨m', rfl, fun e => by have := hmi e; omega, e3, by rw [hS', if_pos rfl]⟩
        · rw [if_neg hrr] at hre
          obtain ⟨j, e1, _, e3, e4⟩ := h.rows n' _ _ _ hTn hre
          refine ⟨j, e1, fun e => ?_, e3, ?_⟩
          · subst e; rw [hs] at e4; cases e4; exact hrr rfl
          · rw [hS', if_neg (fun e => by subst e; rw [hsm] at e4; cases e4; omega)]; exact e4
      · rw [if_neg hlt] at hre; cases hre
    · rw [if_neg hnn] at hTq
      obtain ⟨j, e1, _, e3, e4⟩ := h.rows n' _ _ _ hTq hre
      refine ⟨j, e1, fun e => ?_, e3, ?_⟩
      · subst e; rw [hs] at e4; cases e4; exact hnn rfl
      · rw [hS', if_neg (fun e => by subst e; rw [hsm] at e4; cases e4; exact hnn rfl)]; exact e4
  · intro n' T' c hTq hc
    rw [hT'] at hTq
    by_cases hnn : n' = n
    · subst hnn
      rw [if_pos rfl] at hTq
      cases hTq
      have hcl := h.cols n' _ c hTn hc
      show (takeRow ((S.tabs[n']).col c) r).length = (takeRow (S.tabs[n']).rows r).length
      rw [takeRow_len _ (by omega), takeRow_len _ hr, hcl]
    · rw [if_neg hnn] at hTq
      exact h.cols n' _ c hTq hc
  · intro j gj hj hgj
    obtain ⟨n', r', T', k1, k2, k3, r0, T0, k4, k5, k6⟩ := key j gj hj hgj
    rw [partsOf_eq k1 k2, partsOf_eq k4 k5]
    refine List.map_congr_left fun c hc => ?_
    unfold partAt
    rw [k6 c hc]
end Go.Proofs.YtlkpadfkmdgjcaaGreatDoor
end
section
set_option linter.unusedSimpArgs false
set_option linter.unusedVariables false
namespace Go.Proofs.YtlkpadfkmdgjcaaGreatDoor
open Go Go.Ev
set_option linter.unusedVariables false
set_option linter.unusedSimpArgs false
set_option maxRecDepth 100000

theorem filt_parts (z : Part) : ∀ (comps : List Nat) (L : List Part), L.map (·.comp) = comps.map (fun c : Nat => (c : Int)) → comps.Nodup →
    (∀ c ∈ comps, (L.filter fun q => decide (q.comp = (c : Int))).length = 1) ∧ comps.map (fun c : Nat => ((L.filter fun q => decide (q.comp = (c : Int)))[0]?).getD z) = L
  | [], L, h, _ => by
    cases L with
    | nil => simp
    | cons q L => simp at h
  | c :: cs, [], h, _ => by simp at h
  | c :: cs, q :: L, h, hn => by
    rw [List.map_cons, List.map_cons, List.cons.injEq] at h
    rw [List.nodup_cons] at hn
    obtain ⟨i1, i2⟩ := filt_parts z cs L h.2 hn.2
    have hq : decide (q.comp = (c : Int)) = true := decide_eq_true h.1
    have hd : ∀ d ∈ cs, decide (q.comp = (d : Int)) = false := fun d hd => decide_eq_false fun e => by
      have : d = c := by have := h.1; omega
      subst this; exact hn.1 hd
    have hL : L.filter (fun q => decide (q.comp = (c : Int))) = [] := by
      rw [List.filter_eq_nil_iff]
      intro x hx
      have hm : x.comp ∈ cs.map (fun c : Nat => (c : Int)) := h.2 ▸ List.mem_map.2 ⟨x, hx, rfl⟩
      obtain ⟨d, hdm, e⟩ := List.mem_map.1 hm
      have : ¬ x.comp = (c : Int) := fun e2 => by
        have : d = c := by omega
        subst this; exact hn.1 hdm
      simpa using this
    refine ⟨fun d hdm => ?_, ?_⟩
    · rcases List.mem_cons.1 hdm with rfl | hdm
      · rw [List.filter_cons_of_pos (by simpa using hq), hL]; rfl
      · rw [List.filter_cons_of_neg (by simpa using hd d hdm)]; exact i1 d hdm
    · rw [List.map_cons, List.filter_cons_of_pos (by simpa using hq)]
      congr 1
      refine Eq.trans (List.map_congr_left fun d hdm => ?_) i2
      rw [List.filter_cons_of_neg (by simpa using hd d hdm)]
theorem enterS_tabs {S : SM} {n i : Nat} {g : Int} {L : List Part} (hn : n < S.tabs.length) (k : Nat) : (enterS S n i g L hn).tabs[k]? = if k = n then some ⟨S.tabs[n].rows ++ [((i : Int), g)], (pushC S.tabs[n] L).col⟩ else S.tabs[k]? := by
  unfold enterS
  rw [List.getElem?_set]
  by_cases h : n = k
  · subst h; rw [if_pos rfl, if_pos hn, if_pos rfl]
  · rw [if_neg h, if_neg (fun e => h e.symm)]
theorem enterS_spots {S : SM} {n i : Nat} {g : Int} {L : List Part} (hn : n < S.tabs.length) (hi : i < S.spots.length) (k : Nat) : (enterS S n i g L hn).spots[k]? = if k = i then some (n, S.tabs[n].rows.length) else S.spots[k]? := by
  unfold enterS
  rw [List.getElem?_set]
  by_cases h : i = k
  · subst h; rw [if_pos rfl, if_pos hi, if_pos rfl]
  · rw [if_neg h, if_neg (fun e => h e.symm)]
theorem WFe.enter {S : SM} {i : Nat} (h : WFe S (· = i)) {g : Int} (hg : S.gens[i]? = some (g, true)) {n : Nat} (hn : n < S.tabs.length) {L : List Part} (hLc : L.map (·.comp) = (compsM S.masks n).map (fun c : Nat => (c : Int))) :
    WF (enterS S n i g L hn) ∧ partsOf (enterS S n i g L hn) i = L ∧ ∀ j gj, j ≠ i → S.gens[j]? = some (gj, true) → partsOf (enterS S n i g L hn) j = partsOf S j := by
  have hi : i < S.spots.length := by rw [← h.gs]; exact (List.getElem?_eq_some_iff.1 hg).1
  have hTn : S.tabs[n]? = some S.tabs[n] := List.getElem?_eq_getElem hn
  have hT' := enterS_tabs (i := i) (g := g) (L := L) hn
  have hS' := enterS_spots (g := g) (L := L) hn hi
  obtain ⟨f1, f2⟩ := filt_parts ⟨0, 0, 0, 0, 0, 0⟩ _ L hLc (compsM_nodup S.masks n)
  have key : ∀ j gj, j ≠ i → S.gens[j]? = some (gj, true) → ∃ n' r' T', (enterS S n i g L hn).spots[j]? = some (n', r') ∧ (enterS S n i g L hn).tabs[n']? = some T' ∧ T'.rows[r']? = some ((j : Int), gj) ∧
      ∃ T0, S.spots[j]? = some (n', r') ∧ S.tabs[n']? = some T0 ∧ ∀ c ∈ compsM S.masks n', (T'.col c)[r']? = (T0.col c)[r']? := by
    intro j gj hj hgj
    obtain ⟨n', r', T', h1, h2, h3⟩ := h.live j gj hgj hj
    by_cases hnn : n' = n
    · subst hnn
      rw [hTn] at h2; cases h2
      have hr'l := (List.getElem?_eq_some_iff.1 h3).1
      refine ⟨n', r', _, by rw [hS', if_neg hj]; exact h1, by rw [hT', if_pos rfl], ?_, _, h1, hTn, fun c hc => ?_⟩
      · show (S.tabs[n'].rows ++ _)[r']? = _
        rw [List.getElem?_append_left hr'l]; exact h3
      · show (S.tabs[n'].col c ++ _)[r']? = _
        rw [List.getElem?_append_left (by rw [h.cols n' _ c hTn hc]; exact hr'l)]
    · exact ⟨n', r', T', by rw [hS', if_neg hj]; exact h1, by rw [hT', if_neg hnn]; exact h2, h3, T', h1, h2, fun c _ => rfl⟩
  refine ⟨⟨?_, ?_, ?_, ?_⟩, ?_, ?_⟩
  · show S.gens.length = (S.spots.set i _).length
    rw [List.length_set]; exact h.gs
  · intro j gj hgj _
    by_cases hj : j = i
    · subst hj
      have : S.gens[j]? = some (gj, true) := hgj
      rw [hg] at this; cases this
      refine ⟨n, S.tabs[n].rows.length, _, by rw [hS', if_pos rfl], by rw [hT', if_pos rfl], ?_⟩
      show (S.tabs[n].rows ++ _)[_]? = _
      rw [List.getElem?_append_right (by omega)]; simp
    · obtain ⟨n', r', T', k1, k2, k3, _⟩ := key j gj hj hgj
      exact ⟨n', r', T', k1, k2, k3⟩
  · intro n' T' r' e hTq hre
    rw [hT'] at hTq
    by_cases hnn : n' = n
    · subst hnn
      rw [if_pos rfl] at hTq
      cases hTq
      have hre : (S.tabs[n'].rows ++ [((i : Int), g)])[r']? = some e := hre
      rcases Nat.lt_or_ge r' S.tabs[n'].rows.length with hlt | hge
      · rw [List.getElem?_append_left hlt] at hre
        obtain ⟨j, e1, e2, e3, e4⟩ := h.rows n' _ _ _ hTn hre
        exact ⟨j, e1, fun h => h, e3, by rw [hS', if_neg e2]; exact e4⟩
      · rw [List.getElem?_append_right hge] at hre
        have h0 : r' - S.tabs[n'].rows.length = 0 := by
          have := (List.getElem?_eq_some_iff.1 hre).1
          simp at this; omega
        rw [h0] at hre
        simp at hre
        subst hre
        exact ⟨i, rfl, fun h => h, hg, by rw [hS', if_pos rfl, show r' = S.tabs[n'].rows.length by omega]⟩
    · rw [if_neg hnn] at hTq
      obtain ⟨j, e1, e2, e3, e4⟩ := h.rows n' _ _ _ hTq hre
      exact ⟨j, e1, fun h => h, e3, by rw [hS', if_neg e2]; exact e4⟩
  · intro n' T' c hTq hc
    rw [hT'] at hTq
    by_cases hnn : n' = n
    · subst hnn
      rw [if_pos rfl] at hTq
      cases hTq
      have hcl := h.cols n' _ c hTn hc
      have := f1 c hc
      show (S.tabs[n'].col c ++ L.filter _).length = (S.tabs[n'].rows ++ _).length
      rw [List.length_append, List.length_append, hcl, this]; rfl
    · rw [if_neg hnn] at hTq
      exact h.cols n' _ c hTq hc
  · have k1 := hS' i
    rw [if_pos rfl] at k1
    have k2 := hT' n
    rw [if_pos rfl] at k2
    rw [partsOf_eq k1 k2]
    refine Eq.trans (List.map_congr_left fun c hc => ?_) f2
    have hcl := h.cols n _ c hTn hc
    show ((S.tabs[n].col c ++ L.filter _)[S.tabs[n].rows.length]?).getD _ = _
    rw [List.getElem?_append_right (by omega), hcl, Nat.sub_self]
  · intro j gj hj hgj
    obtain ⟨n', r', T', k1, k2, k3, T0, k4, k5, k6⟩ := key j gj hj hgj
    rw [partsOf_eq k1 k2, partsOf_eq k4 k5]
    refine List.map_congr_left fun c hc => ?_
    unfold partAt
    rw [k6 c hc]
theorem WFe.masks {S : SM} {ex : Nat → Prop} (h : WFe S ex) (ht : S.tabs.length ≤ S.masks.length) (m : Nat) : WFe { S with masks := addM S.masks m } ex ∧ ∀ j gj, ¬ ex j → S.gens[j]? = some (gj, true) → partsOf { S with masks := addM S.masks m } j = partsOf S j := by
  refine ⟨⟨h.gs, h.live, h.rows, fun n T c hT hc => ?_⟩, fun j gj hj hgj => ?_⟩
  · have hn : n < S.tabs.length := (List.getElem?_eq_some_iff.1 hT).1
    refine h.cols n T c hT ?_
    rw [← compsM_addM (m := m) (by omega)]; exact hc
  · obtain ⟨n, r, T, h1, h2, h3⟩ := h.live j gj hgj hj
    have hn := (List.getElem?_eq_some_iff.1 h2).1
    rw [partsOf_eq (S := { S with masks := addM S.masks m }) h1 h2, partsOf_eq h1 h2]
    show (compsM (addM S.masks m) n).map _ = _
    rw [compsM_addM (by omega)]
theorem layS_tabs {S : SM} {k n : Nat} {T : TabM} (h : (layS S k).tabs[n]? = some T) : S.tabs[n]? = some T ∨ T = TabM.empty := by
  unfold layS at h
  rcases Nat.lt_or_ge n S.tabs.length with hn | hn
  · rw [List.getElem?_append_left hn] at h; exact .inl h
  · rw [List.getElem?_append_right hn] at h
    have := (List.getElem?_eq_some_iff.1 h)
    obtain ⟨h1, h2⟩ := this
    rw [List.getElem_replicate] at h2
    exact .inr h2.symm
theorem WFe.lay {S : SM} {ex : Nat → Prop} (h : WFe S ex) (k : Nat) : WFe (layS S k) ex ∧ ∀ j gj, ¬ ex j → S.gens[j]? = some (gj, true) → partsOf (layS S k) j = partsOf S j := by
  have hup : ∀ {n T}, S.tabs[n]? = some T → (layS S k).tabs[n]? = some T := fun {n T} e => by
    unfold layS
    rw [List.getElem?_append_left (List.getElem?_eq_some_iff.1 e).1]; exact e
  refine ⟨⟨h.gs, fun i g hg hx => ?_, fun n T r e hT hr => ?_, fun n T c hT hc => ?_⟩, fun j gj hj hgj => ?_⟩
  · obtain ⟨n, r, T, h1, h2, h3⟩ := h.live i g hg hx
    exact ⟨n, r, T, h1, hup h2, h3⟩
  · rcases layS_tabs hT with hT | rfl
    · exact h.rows n T r e hT hr
    · cases hr
  · rcases layS_tabs hT with hT | rfl
    · exact h.cols n T c hT hc
    · rfl
  · obtain ⟨n, r, T, h1, h2, h3⟩ := h.live j gj hgj hj
    rw [partsOf_eq (S := layS S k) h1 (hup h2), partsOf_eq h1 h2]; rfl
theorem WFe.born {S : SM} (h : WF S) {i : Nat} {g0 g1 : Int} (hg : S.gens[i]? = some (g0, false)) (free : List Nat) : WFe (rollS S (S.gens.set i (g1, true)) free) (· = i) := by
  have hi := (List.getElem?_eq_some_iff.1 hg).1
  have hne : ∀ j, j ≠ i → (S.gens.set i (g1, true))[j]? = S.gens[j]? := fun j hj => by rw [List.getElem?_set_ne (fun e => hj e.symm)]
  refine ⟨by show (S.gens.set i _).length = _; rw [List.length_set]; exact h.gs, fun j g hgj hj => ?_, fun n T r e hT hr => ?_, h.cols⟩
  · have hgj : (S.gens.set i (g1, true))[j]? = some (g, true) := hgj
    rw [hne j hj] at hgj
    exact h.live j g hgj (fun h => h)
  · obtain ⟨j, e1, _, e3, e4⟩ := h.rows n T r e hT hr
    have hj : j ≠ i := fun e => by subst e; rw [hg] at e3; cases e3
    exact ⟨j, e1, hj, by show (S.gens.set i (g1, true))[j]? = _; rw [hne j hj]; exact e3, e4⟩
theorem comps_sorted {S : SM} (hcs : S.cs.length ≤ 16) {L L' : List Part} (hf : ∀ q ∈ L, FitsP S.cs q) (hnt : NoTwice L) (hp : L'.Perm L) (hs : L'.Pairwise (fun x y => x.comp ≤ y.comp)) : L'.map (·.comp) = (listF (maskP L)).map (fun c : Nat => (c : Int)) := by
  refine List.Perm.eq_of_pairwise (le := fun x y : Int => x ≤ y) (fun a b _ _ h1 h2 => by omega) ?_ ?_ ?_
  · rw [List.pairwise_map]; exact hs
  · rw [List.pairwise_map]; exact (listF_sorted _).imp (fun h => by omega)
  · refine (hp.map _).trans ((List.perm_ext_iff_of_nodup hnt ?_).2 fun a => ?_)
    · unfold List.Nodup
      rw [List.pairwise_map]
      exact (listF_nodup _).imp (fun h e => h (by omega))
    · rw [List.mem_map, List.mem_map]
      constructor
      · rintro ⟨q, hq, rfl⟩
        obtain ⟨d, e1, e2, _⟩ := hf q hq
        exact ⟨d, listF_mem.2 ⟨by omega, (maskP_bit S.cs hcs L hf d).2 ⟨q, hq, e1⟩⟩, e1.symm⟩
      · rintro ⟨d, hd, rfl⟩
        obtain ⟨q, hq, e⟩ := (maskP_bit S.cs hcs L hf d).1 (listF_mem.1 hd).2
        exact ⟨q, hq, e⟩
end Go.Proofs.YtlkpadfkmdgjcaaGreatDoor
end
section
set_option linter.unusedSimpArgs false
set_option linter.unusedVariables false
namespace Go.Proofs.YtlkpadfkmdgjcaaGreatDoor
open Go Go.Ev
set_option linter.unusedVariables false
set_option linter.unusedSimpArgs false
set_option maxRecDepth 100000

def FreeOk (S : SM) : Prop := S.free.Nodup ∧ ∀ i, i ∈ S.free ↔ ∃ g, S.gens[i]? = some (g, false)
/-- A store behind at most t acts. -/
structure GS (S : SM) (t : Nat) : Prop where
  wf : WF S
  fr : FreeOk S
  gen : ∀ (i : Nat) (x : Int × Bool), S.gens[i]? = some x → 0 ≤ x.1 ∧ x.1 ≤ (t : Int)
  ml : S.masks.length ≤ t + 1
  g64 : S.gens.length ≤ 64
theorem addM_len (ms : List Nat) (m : Nat) : ms.length ≤ (addM ms m).length ∧ (addM ms m).length ≤ ms.length + 1 := by
  unfold addM; split <;> simp
theorem GS.bnd {S : SM} {t : Nat} (h : GS S t) : Bnd S := by
  intro n T hT
  have h1 := h.wf.rows_le hT
  have h2 := h.wf.gs
  have h3 := h.g64
  refine ⟨by omega, fun c hc => ?_⟩
  rw [h.wf.cols n T c hT hc]; omega
/-- What a Spawn leaves. -/
structure Born (S S' : SM) (L' : List Part) (i : Nat) (g : Int) : Prop where
  gens : S'.gens = S.gens.set i (g, true)
  cs : S'.cs = S.cs
  masks : S'.masks = addM S.masks (maskP L')
  tabs : S'.tabs.length = S'.masks.length
  free : S'.free = S.free.dropLast
  parts : partsOf S' i = L'
  others : ∀ j gj, j ≠ i → S.gens[j]? = some (gj, true) → partsOf S' j = partsOf S j
theorem maskP_perm {cs : List Comp} (hcs : cs.length ≤ 16) {L L' : List Part} (hp : L'.Perm L) (hf : ∀ q ∈ L, FitsP cs q) : maskP L' = maskP L := by
  have hf' : ∀ q ∈ L', FitsP cs q := fun q hq => hf q (hp.mem_iff.1 hq)
  apply Nat.eq_of_testBit_eq
  intro c
  rw [Bool.eq_iff_iff, maskP_bit cs hcs L' hf' c, maskP_bit cs hcs L hf c]
  exact ⟨fun ⟨q, h, e⟩ => ⟨q, hp.mem_iff.1 h, e⟩, fun ⟨q, h, e⟩ => ⟨q, hp.mem_iff.2 h, e⟩⟩
theorem GS.spawn {S : SM} {t : Nat} (h : GS S t) (ht : S.tabs.length ≤ S.masks.length) (hcs : S.cs.length ≤ 16) {K i : Nat} {g0 : Int} (hK : K + 1 = S.free.length) (hi : S.free[K]'(by omega) = i) (hg : S.gens[i]? = some (g0, false))
    {L L' : List Part} (hf : ∀ q ∈ L, FitsP S.cs q) (hnt : NoTwice L) (hp : L'.Perm L) (hs : L'.Pairwise (fun x y => x.comp ≤ y.comp)) :
    GS (spawnS S (maskP L) i (g0 + 1) L' ht (S.gens.set i (g0 + 1, true)) (S.free.take K)) (t + 1) ∧ Born S (spawnS S (maskP L) i (g0 + 1) L' ht (S.gens.set i (g0 + 1, true)) (S.free.take K)) L' i (g0 + 1) := by
  have hil := (List.getElem?_eq_some_iff.1 hg).1
  have w1 := WFe.born h.wf hg (g1 := g0 + 1) (S.free.take K)
  obtain ⟨w2, v2⟩ := w1.masks ht (maskP L)
  obtain ⟨w3, v3⟩ := w2.lay ((addM S.masks (maskP L)).length - S.tabs.length)
  have hn : (addM S.masks (maskP L)).idxOf (maskP L) < (laidS (rollS S (S.gens.set i (g0 + 1, true)) (S.free.take K)) (maskP L)).tabs.length := by
    have e := laidS_len (S := rollS S (S.gens.set i (g0 + 1, true)) (S.free.take K)) ht (maskP L)
    rw [e]; exact idx_addM_lt _ _
  have hgi : (laidS (rollS S (S.gens.set i (g0 + 1, true)) (S.free.take K)) (maskP L)).gens[i]? = some (g0 + 1, true) := by
    show (S.gens.set i (g0 + 1, true))[i]? = _
    rw [List.getElem?_set, if_pos rfl, if_pos hil]
  have hLc : L'.map (·.comp) = (compsM (laidS (rollS S (S.gens.set i (g0 + 1, true)) (S.free.take K)) (maskP L)).masks ((addM S.masks (maskP L)).idxOf (maskP L))).map (fun c : Nat => (c : Int)) := by
    show _ = (compsM (addM S.masks (maskP L)) _).map _
    unfold compsM
    rw [idx_addM]
    exact comps_sorted hcs hf hnt hp hs
  obtain ⟨w4, v4, v5⟩ := WFe.enter w3 hgi hn hLc
  have hlen : (spawnS S (maskP L) i (g0 + 1) L' ht (S.gens.set i (g0 + 1, true)) (S.free.take K)).tabs.length = (addM S.masks (maskP L)).length := by
    have e := laidS_len (S := rollS S (S.gens.set i (g0 + 1, true)) (S.free.take K)) ht (maskP L)
    show (List.set _ _ _).length = _
    rw [List.length_set]; exact e
  have hfl : S.free.take K = S.free.dropLast := by rw [List.dropLast_eq_take, show S.free.length - 1 = K by omega]
  have hsp : S.free = S.free.take K ++ [i] := by
    have := List.take_append_drop K S.free
    rw [List.drop_eq_getElem_cons (by omega), hi, List.drop_eq_nil_of_le (by omega)] at this
    exact this.symm
  refine ⟨⟨w4, ⟨?_, fun j => ?_⟩, fun j x hx => ?_, ?_, ?_⟩, ⟨rfl, rfl, ?_, hlen, hfl, v4, fun j gj hj hgj => ?_⟩⟩
  · exact h.fr.1.sublist (List.take_sublist _ _)
  · show j ∈ S.free.take K ↔ ∃ g, (S.gens.set i (g0 + 1, true))[j]? = some (g, false)
    have hnd := h.fr.1
    rw [hsp] at hnd
    have hin : i ∉ S.free.take K := fun hm => by
      have := (List.nodup_append.1 hnd).2.2 i hm i (by simp)
      exact this rfl
    by_cases hj : j = i
    · subst hj
      rw [List.getElem?_set, if_pos rfl, if_pos hil]
      exact ⟨fun h => absurd h hin, fun ⟨g, e⟩ => by cases e⟩
    · rw [List.getElem?_set_ne (fun e => hj e.symm), ← h.fr.2 j]
      constructor
      · intro hm; exact List.mem_of_mem_take hm
      · intro hm
        rw [hsp] at hm
        rcases List.mem_append.1 hm with hm | hm
        · exact hm
        · simp at hm; exact absurd hm hj
  · have hx : (S.gens.set i (g0 + 1, true))[j]? = some x := hx
    by_cases hj : j = i
    · subst hj
      rw [List.getElem?_set, if_pos rfl, if_pos hil] at hx
      cases hx
      have := h.gen j _ hg
      simp at this ⊢; omega
    · rw [List.getElem?_set_ne (fun e => hj e.symm)] at hx
      have := h.gen j x hx
      push_cast; omega
  · have := addM_len S.masks (maskP L)
    have h2 := h.ml
    show (addM S.masks (maskP L)).length ≤ _
    omega
  · show (S.gens.set i _).length ≤ 64
    rw [List.length_set]; exact h.g64
  · show addM S.masks (maskP L) = addM S.masks (maskP L')
    rw [maskP_perm hcs hp hf]
  · have hgj' : (S.gens.set i (g0 + 1, true))[j]? = some (gj, true) := by rw [List.getElem?_set_ne (fun e => hj e.symm)]; exact hgj
    refine (v5 j gj hj hgj').trans ((v3 j gj hj hgj').trans ((v2 j gj hj hgj').trans rfl))
theorem spawn_at {o : Lab} {w : World} (hD : DeAt w) {b : Nat} {p : Ptrs} {S : SM} (h : StoreP o w b p S) (hDo : o 18 = none) {t : Nat} (hG : GS S t) (ht : t ≤ 10000) (hfree : S.free ≠ [])
    {L : List Part} {a : Option Addr} {c : Nat} (hs : SlIs w a L.length 6 (L.flatMap Part.cells)) (hLb : ∀ k f, a = some ⟨k, f, none⟩ → o k = none) (hn16 : L.length ≤ 64) (hf : ∀ q ∈ L, FitsP S.cs q) (hnt : NoTwice L) :
    Meets Tryz.prog 14 #[ptrV b, .slice a L.length c] w fun v w' => ∃ (i : Nat) (g0 : Int) (L' : List Part) (S' : SM), S.free.getLast? = some i ∧ S.gens[i]? = some (g0, false) ∧ v = .tuple #[entV i (g0 + 1), .nilIface] ∧ L'.Perm L ∧ L'.Pairwise (fun x y => x.comp ≤ y.comp) ∧
      GS S' (t + 1) ∧ Born S S' L' i (g0 + 1) ∧ Turned o w b S' w' := by
  have hlen : 0 < S.free.length := List.length_pos_iff.2 hfree
  obtain ⟨K, hK⟩ : ∃ K, K + 1 = S.free.length := ⟨S.free.length - 1, by omega⟩
  have hKl : K < S.free.length := by omega
  obtain ⟨g0, hg⟩ := (hG.fr.2 _).1 (List.getElem_mem hKl)
  obtain ⟨hlt, hge⟩ := List.getElem?_eq_some_iff.1 hg
  have hb := hG.gen _ _ hg
  have hml := hG.ml
  refine (sSpawn_spec hD h hDo hK (i := S.free[K]) rfl hlt (by rw [hge]; simp at hb ⊢; omega) (by rw [← hG.wf.gs]; exact hlt) (by omega) hG.bnd hs hLb hn16 hf hnt).mono ?_
  rintro v w' ⟨rfl, L', h1, h2, h3⟩
  have hg' : (S.gens[S.free[K]]).1 = g0 := by rw [hge]
  rw [hg'] at h3
  obtain ⟨k1, k2⟩ := hG.spawn h.tle h.good.1 hK rfl hg hf hnt h1 h2
  refine ⟨S.free[K], g0, L', _, ?_, hg, by rw [hg'], h1, h2, k1, k2, h3⟩
  rw [List.getLast?_eq_getElem?, show S.free.length - 1 = K by omega, List.getElem?_eq_getElem hKl]
end Go.Proofs.YtlkpadfkmdgjcaaGreatDoor
end
section
set_option linter.unusedSimpArgs false
set_option linter.unusedVariables false
namespace Go.Proofs.YtlkpadfkmdgjcaaGreatDoor
open Go Go.Ev
set_option linter.unusedVariables false
set_option linter.unusedSimpArgs false
set_option maxRecDepth 100000

theorem filter_one {L : List Part} (hnt : NoTwice L) (c : Int) : (L.filter fun q => decide (q.comp = c)).length ≤ 1 := by
  have h1 : ((L.filter fun q => decide (q.comp = c)).map (·.comp)).Nodup := List.Nodup.sublist (List.Sublist.map _ List.filter_sublist) hnt
  have := h1.length_le_of_subset (l₂ := [c]) (fun x hx => by
    obtain ⟨q, hq, rfl⟩ := List.mem_map.1 hx
    have := (List.mem_filter.1 hq).2
    simpa using this)
  simpa using this
theorem pushC_perm {L L' : List Part} (hp : L.Perm L') (hnt : NoTwice L) (T : TabM) : pushC T L = pushC T L' := by
  unfold pushC
  congr 1
  funext c
  congr 1
  have h1 := filter_one hnt (c : Int)
  have h2 := hp.filter fun q : Part => decide (q.comp = (c : Int))
  generalize L.filter (fun q : Part => decide (q.comp = (c : Int))) = a at *
  generalize L'.filter (fun q : Part => decide (q.comp = (c : Int))) = a' at *
  match a, h1 with
  | [], _ => exact (List.nil_perm.1 h2).symm
  | [x], _ => exact (List.singleton_perm.1 h2).symm ▸ rfl
theorem enterS_perm {S : SM} {n i : Nat} {g : Int} {L L' : List Part} (hn : n < S.tabs.length) (hp : L.Perm L') (hnt : NoTwice L) : enterS S n i g L hn = enterS S n i g L' hn := by
  unfold enterS
  rw [pushC_perm hp hnt]
/-- What a move leaves. -/
structure Went (S S' : SM) (L' : List Part) (i : Nat) : Prop where
  gens : S'.gens = S.gens
  cs : S'.cs = S.cs
  masks : S'.masks = addM S.masks (maskP L')
  tabs : S'.tabs.length = S'.masks.length
  free : S'.free = S.free
  parts : partsOf S' i = L'
  others : ∀ j gj, j ≠ i → S.gens[j]? = some (gj, true) → partsOf S' j = partsOf S j
theorem layA_len {S : SM} (h : S.tabs.length ≤ S.masks.length) : (layA S).tabs.length = S.masks.length := by
  simp [layA, layS]; omega
theorem move_at {o : Lab} {w : World} (hD : DeAt w) {b : Nat} {p : Ptrs} {S : SM} {m' : Nat} (h : StoreP o w b p { S with masks := addM S.masks m' }) (hDo : o 18 = none) {t : Nat} (hG : GS S t) (ht0 : S.tabs.length ≤ S.masks.length) (ht : t ≤ 10000)
    {i : Nat} {g : Int} (hg : S.gens[i]? = some (g, true)) {bc : Nat} (hbc : bc < w.heap.size) (hbo : o bc = none) {f : FuncId} {caps : Array Value} {L2 L' : List Part} (hT : Turns w bc f caps (partsOf S i) L2) (hp : L2.Perm L') (hLc : L'.map (·.comp) = (listF m').map (fun c : Nat => (c : Int))) (hm' : maskP L' = m') (hf : ∀ q ∈ L', FitsP S.cs q) :
    Meets Tryz.prog 84 #[ptrV b, entV i g, natV ((addM S.masks m').idxOf m'), .func (.func f) #[] caps] w fun v w' => v = .nilIface ∧ ∃ S', GS S' (t + 1) ∧ Went S S' L' i ∧ Turned o w b S' w' := by
  obtain ⟨w2, v2⟩ := hG.wf.masks ht0 m'
  obtain ⟨w3, v3⟩ := w2.lay ((addM S.masks m').length - S.tabs.length)
  have w3 : WF (layA { S with masks := addM S.masks m' }) := w3
  have hg3 : (layA { S with masks := addM S.masks m' }).gens[i]? = some (g, true) := hg
  have hp3 : partsOf (layA { S with masks := addM S.masks m' }) i = partsOf S i := (v3 i g (fun h => h) hg).trans (v2 i g (fun h => h) hg)
  have ht1 : ({ S with masks := addM S.masks m' } : SM).tabs.length ≤ ({ S with masks := addM S.masks m' } : SM).masks.length := h.tle
  have hlen2 := layA_len ht1
  obtain ⟨n, r, hs, hn, hr, hri, m, gm, hl, hm, hsm⟩ := w3.stand hg3 (fun h => h)
  obtain ⟨w4, v4⟩ := WFe.leave w3 hs hn hr hri hl hm hsm
  have hlen3 : (leaveS (layA { S with masks := addM S.masks m' }) n r m hn).tabs.length = (addM S.masks m').length := by
    show (List.set _ _ _).length = _
    rw [List.length_set]; exact hlen2
  have hnd : (addM S.masks m').idxOf m' < (leaveS (layA { S with masks := addM S.masks m' }) n r m hn).tabs.length := by rw [hlen3]; exact idx_addM_lt _ _
  have hLc' : L'.map (·.comp) = (compsM (leaveS (layA { S with masks := addM S.masks m' }) n r m hn).masks ((addM S.masks m').idxOf m')).map (fun c : Nat => (c : Int)) := by
    show _ = (compsM (addM S.masks m') _).map _
    unfold compsM
    rw [idx_addM]
    exact hLc
  obtain ⟨w5, v5, v6⟩ := WFe.enter w4 hg3 hnd hLc'
  have hL'l : L'.length ≤ 32 := by
    have := congrArg List.length hLc
    simp only [List.length_map] at this
    have := listF_len m'
    omega
  have hnt' : NoTwice L' := by
    unfold NoTwice
    rw [hLc]
    unfold List.Nodup
    rw [List.pairwise_map]
    exact (listF_nodup _).imp (fun h e => h (by omega))
  have hnt2 : NoTwice L2 := (List.Perm.nodup_iff (hp.map _)).2 hnt'
  have hrl := w3.rows_le (List.getElem?_eq_getElem hn)
  have hsp : (layA { S with masks := addM S.masks m' }).spots.length = S.spots.length := rfl
  have hgs := hG.wf.gs
  have hg64 := hG.g64
  have hpe := partsOf_eq hs (List.getElem?_eq_getElem hn)
  have hT' : Turns w bc f caps ((compsM ({ S with masks := addM S.masks m' } : SM).masks n).map (partAt (layA { S with masks := addM S.masks m' }).tabs[n] r)) L2 := by
    have e : (compsM ({ S with masks := addM S.masks m' } : SM).masks n).map (partAt (layA { S with masks := addM S.masks m' }).tabs[n] r) = partsOf S i := by
      rw [← hp3, hpe]; rfl
    rw [e]; exact hT
  have h4r := w4.rows_le (List.getElem?_eq_getElem hnd)
  have hsp4 : (leaveS (layA { S with masks := addM S.masks m' }) n r m hn).spots.length = S.spots.length := by
    show (List.set _ _ _).length = _
    rw [List.length_set]; rfl
  refine (sMove_spec hD h hDo (g := g) (gm := gm) hs hn hr (fun c hc => w3.cols n _ c (List.getElem?_eq_getElem hn) hc) hl hm (by omega) hbc hbo hT' hnd (by rw [hp.length_eq]; omega) (fun q hq => hf q (hp.mem_iff.1 hq)) ?_ ?_ (by omega)).mono ?_
  · intro q hq
    have hq := hp.mem_iff.1 hq
    have hm2 : q.comp ∈ (listF m').map (fun c : Nat => (c : Int)) := hLc ▸ List.mem_map.2 ⟨q, hq, rfl⟩
    obtain ⟨c, hc, e⟩ := List.mem_map.1 hm2
    refine ⟨c, e.symm, ?_⟩
    show c ∈ compsM (addM S.masks m') _
    unfold compsM
    rw [idx_addM]; exact hc
  · intro c hc
    rw [w4.cols _ _ c (List.getElem?_eq_getElem hnd) hc, hp.length_eq]
    omega
  · rintro v w' ⟨rfl, h'⟩
    rw [enterS_perm hnd hp hnt2] at h'
    have hgens : (enterS (leaveS (layA { S with masks := addM S.masks m' }) n r m hn) ((addM S.masks m').idxOf m') i g L' hnd).gens = S.gens := rfl
    refine ⟨rfl, _, ⟨w5, hG.fr, fun j x hx => ?_, ?_, hg64⟩, ⟨rfl, rfl, ?_, ?_, rfl, v5, fun j gj hj hgj => ?_⟩, h'⟩
    · have := hG.gen j x hx
      push_cast; omega
    · have := addM_len S.masks m'
      have h2 := hG.ml
      show (addM S.masks m').length ≤ _
      omega
    · rw [hm']; rfl
    · show (List.set _ _ _).length = _
      rw [List.length_set]; exact hlen3
    · exact (v6 j gj hj hgj).trans ((v4 j gj hj hgj).trans ((v3 j gj (fun h => h) hgj).trans (v2 j gj (fun h => h) hgj)))
end Go.Proofs.YtlkpadfkmdgjcaaGreatDoor
end
section
set_option linter.unusedSimpArgs false
set_option linter.unusedVariables false
namespace Go.Proofs.YtlkpadfkmdgjcaaGreatDoor
open Go Go.Ev
set_option linter.unusedVariables false
set_option linter.unusedSimpArgs false
set_option maxRecDepth 100000
attribute [local irreducible] kO kB kStr kInt kN kG kIf kfld kld kldN kst knew kmap kbld kbldS kext kcnv klenStr klen kcap kprt kprtN kbool kint kstr keq kun ksl kix kiv kta kmk kmm ksem ksemU kextf kcallV kcallM kcall kL

theorem comps_mask {cs : List Comp} (hcs : cs.length ≤ 16) {P : List Part} (hf : ∀ q ∈ P, FitsP cs q) {m : Nat} (hm : m < 2 ^ cs.length) (hc : P.map (·.comp) = (listF m).map (fun c : Nat => (c : Int))) : maskP P = m := by
  apply Nat.eq_of_testBit_eq
  intro c
  rw [Bool.eq_iff_iff, maskP_bit cs hcs P hf c]
  constructor
  · rintro ⟨q, hq, e⟩
    have h1 : q.comp ∈ (listF m).map (fun c : Nat => (c : Int)) := hc ▸ List.mem_map.2 ⟨q, hq, rfl⟩
    obtain ⟨d, hd, e2⟩ := List.mem_map.1 h1
    have : d = c := by omega
    subst this
    exact (listF_mem.1 hd).2
  · intro hb
    have hcl : c < cs.length := by
      rcases Nat.lt_or_ge c cs.length with h | h
      · exact h
      · have : m < 2 ^ c := Nat.lt_of_lt_of_le hm (Nat.pow_le_pow_right (by omega) h)
        rw [Nat.testBit_lt_two_pow this] at hb; cases hb
    have h1 : (c : Int) ∈ P.map (·.comp) := hc ▸ List.mem_map.2 ⟨c, listF_mem.2 ⟨by omega, hb⟩, rfl⟩
    obtain ⟨q, hq, e⟩ := List.mem_map.1 h1
    exact ⟨q, hq, e⟩
/-- What an entity's parts are like. -/
theorem parts_ok {o : Lab} {w : World} {b : Nat} {p : Ptrs} {S : SM} (h : StoreP o w b p S) {t : Nat} (hG : GS S t) {i : Nat} {g : Int} (hg : S.gens[i]? = some (g, true)) :
    ∃ n r, S.spots[i]? = some (n, r) ∧ ∃ hn : n < S.tabs.length, ∃ hnm : n < S.masks.length, (∀ c ∈ compsM S.masks n, r < (S.tabs[n].col c).length) ∧ partsOf S i = (compsM S.masks n).map (partAt S.tabs[n] r) ∧ compsM S.masks n = listF S.masks[n] ∧
      (partsOf S i).map (·.comp) = (listF S.masks[n]).map (fun c : Nat => (c : Int)) ∧ (∀ q ∈ partsOf S i, FitsP S.cs q) ∧ maskP (partsOf S i) = S.masks[n] ∧ S.masks[n] < 2 ^ S.cs.length ∧ ∀ c ∈ compsM S.masks n, (partAt S.tabs[n] r c).comp = (c : Int) := by
  obtain ⟨n, r, T, h1, h2, h3⟩ := hG.wf.live i g hg (fun h => h)
  obtain ⟨hn, e⟩ := List.getElem?_eq_some_iff.1 h2
  subst e
  have hr := (List.getElem?_eq_some_iff.1 h3).1
  have hnm : n < S.masks.length := Nat.lt_of_lt_of_le hn h.tle
  have hcol : ∀ c ∈ compsM S.masks n, r < (S.tabs[n].col c).length := fun c hc => by rw [hG.wf.cols n _ c h2 hc]; exact hr
  have hpe := partsOf_eq h1 h2
  have hce : compsM S.masks n = listF S.masks[n] := by unfold compsM; rw [List.getElem?_eq_getElem hnm]
  have hmk := mk_of h _ (List.getElem_mem hnm)
  have hcomp : ∀ c ∈ compsM S.masks n, (partAt S.tabs[n] r c).comp = (c : Int) ∧ (partAt S.tabs[n] r c).clean (wdF S.cs c) := fun c hc => by
    obtain ⟨_, _, _, _, _, h6, _⟩ := (h.tab n hn).col hc
    have := h6 _ (List.getElem_mem (hcol c hc))
    simp only [partAt, List.getElem?_eq_getElem (hcol c hc), Option.getD_some]
    exact this
  have hmap : (partsOf S i).map (·.comp) = (listF S.masks[n]).map (fun c : Nat => (c : Int)) := by
    rw [hpe, List.map_map, hce]
    exact List.map_congr_left fun c hc => (hcomp c (hce ▸ hc)).1
  have hfit : ∀ q ∈ partsOf S i, FitsP S.cs q := fun q hq => by
    rw [hpe] at hq
    obtain ⟨c, hc, rfl⟩ := List.mem_map.1 hq
    obtain ⟨e1, e2⟩ := hcomp c hc
    exact ⟨c, e1, listF_lt hmk (hce ▸ hc), e2⟩
  exact ⟨n, r, h1, hn, hnm, hcol, hpe, hce, hmap, hfit, comps_mask h.good.1 hfit hmk hmap, hmk, fun c hc => (hcomp c hc).1⟩
theorem seg_nth {l : List Value} {o n j : Nat} {cs : List Value} {v : Value} (h : segL l o n = some cs) (hj : cs[j]? = some v) : l[o + j]? = some v := by
  obtain ⟨h1, h2⟩ := segL_spec _ _ _ _ h
  rw [← h2] at hj
  have hjn : j < n := by
    rcases Nat.lt_or_ge j n with h | h
    · exact h
    · rw [List.getElem?_eq_none (by simp; omega)] at hj; cases hj
  rw [List.getElem?_take_of_lt hjn, List.getElem?_drop] at hj
  exact hj
theorem eraseIdx_filter {α : Type} (p : α → Bool) : ∀ (l : List α) (k : Nat) (hk : k < l.length), p l[k] = false → (∀ j (hj : j < l.length), j ≠ k → p l[j] = true) → l.eraseIdx k = l.filter p
  | x :: l, 0, _, h1, h2 => by
    have h1 : p x = false := h1
    rw [List.eraseIdx_zero, List.tail_cons, List.filter_cons_of_neg (by simp [h1])]
    symm
    rw [List.filter_eq_self]
    intro a ha
    obtain ⟨j, hj, rfl⟩ := List.mem_iff_getElem.1 ha
    exact h2 (j + 1) (by simp; omega) (by omega)
  | x :: l, k + 1, hk, h1, h2 => by
    have hx : p x = true := h2 0 (by simp) (by omega)
    rw [List.eraseIdx_cons_succ, List.filter_cons_of_pos hx]
    congr 1
    exact eraseIdx_filter p l k (by simpa using hk) h1 fun j hj hjk => h2 (j + 1) (by simp; omega) (by omega)
theorem listF_without {m c : Nat} (hc : c < 32) : listF (andN m (2 ^ c)) = (listF m).filter fun x => decide (x ≠ c) := by
  have e : 4294967295 - 2 ^ c = 2 ^ 32 - (2 ^ c + 1) := by omega
  have hb : 2 ^ c < 2 ^ 32 := Nat.pow_lt_pow_right (by omega) hc
  unfold listF
  rw [List.filter_filter]
  apply List.filter_congr
  intro x hx
  have hx : x < 32 := by simpa using hx
  rw [andN, Nat.testBit_and, e, Nat.testBit_two_pow_sub_succ (by omega), Nat.testBit_two_pow]
  by_cases h : x = c
  · subst h; simp
  · have : ¬ c = x := fun e => h e.symm
    simp [h, hx, this]
theorem without_turns {w : World} {bc : Nat} {c : Int} (hb : blk w bc = some (.cells #[.int .i64 c] 3)) {L : List Part} {k : Nat} (hk : k < L.length) (hkc : (L[k]).comp = c) (hone : ∀ j (hj : j < L.length), j ≠ k → (L[j]).comp ≠ c) (hlen : L.length ≤ 1000000) :
    Turns w bc 93 #[.pointer (some ⟨bc, 0, none⟩)] L (L.eraseIdx k) := by
  intro w1 sv hsz hbc hv hO
  have hlb := lt_of_blk hb
  show Meets Tryz.prog 93 #[sv, .pointer (some ⟨bc, 0, none⟩)] w1 _
  refine f93_ok ?_
  unfold f93
  refine kcall_of (deleteP_spec hO (bc := bc) (c := c) (hbc.trans hb) (fun e => by have := hv _ e; omega) hk hkc hone hlen) ?_
  rintro v w2 ⟨h1, h2, h3⟩
  exact ⟨h1, h2, fun k hk => .inl (h3 k hk)⟩
theorem remove_at {o : Lab} {w : World} (hD : DeAt w) {b : Nat} {p : Ptrs} {S : SM} (h : StoreP o w b p S) (hDo : o 18 = none) {t : Nat} (hG : GS S t) (ht : t ≤ 10000) {i : Nat} {g : Int} (hg : S.gens[i]? = some (g, true)) {c : Nat} {q : Part} (hq : q ∈ partsOf S i) (hqc : q.comp = (c : Int)) :
    Meets Tryz.prog 24 #[ptrV b, entV i g, .int .i64 c] w fun v w' => v = .tuple #[.agg q.cells.toArray, .nilIface] ∧ ∃ S', GS S' (t + 1) ∧ Went S S' ((partsOf S i).filter fun x => decide (x.comp ≠ (c : Int))) i ∧ Turned o w b S' w' := by
  obtain ⟨n, r, hsp, hn, hnm, hcol, hpe, hce, hmap, hfit, hmk, hmlt, hpc⟩ := parts_ok h hG hg
  have hcs := h.good.1
  have hp16 : 2 ^ S.cs.length ≤ 2 ^ 16 := Nat.pow_le_pow_right (by omega) hcs
  have hml := hG.ml
  have hgl := (List.getElem?_eq_some_iff.1 hg).1
  have hgs := hG.wf.gs
  have hcm : c ∈ compsM S.masks n := by
    rw [hpe] at hq
    obtain ⟨d, hd, rfl⟩ := List.mem_map.1 hq
    have := hpc d hd
    have : d = c := by omega
    subst this; exact hd
  have hqe : q = (S.tabs[n].col c)[r]'(hcol c hcm) := by
    rw [hpe] at hq
    obtain ⟨d, hd, rfl⟩ := List.mem_map.1 hq
    have := hpc d hd
    have : d = c := by omega
    subst this
    simp only [partAt, List.getElem?_eq_getElem (hcol d hcm), Option.getD_some]
  have hc16 : c < S.cs.length := listF_lt hmlt (hce ▸ hcm)
  have hc32 : c < 32 := by omega
  obtain ⟨k, hk, hkc⟩ : ∃ k, ∃ hk : k < (partsOf S i).length, ((partsOf S i)[k]).comp = (c : Int) := by
    obtain ⟨k, hk, e⟩ := List.mem_iff_getElem.1 hq
    exact ⟨k, hk, by rw [e]; exact hqc⟩
  have hnd : ((partsOf S i).map (·.comp)).Nodup := by
    rw [hmap]
    unfold List.Nodup
    rw [List.pairwise_map]
    exact (listF_nodup _).imp (fun h e => h (by omega))
  have hone : ∀ j (hj : j < (partsOf S i).length), j ≠ k → ((partsOf S i)[j]).comp ≠ (c : Int) := fun j hj hjk e => by
    have : ((partsOf S i).map (·.comp))[j]'(by simpa using hj) = ((partsOf S i).map (·.comp))[k]'(by simpa using hk) := by
      rw [List.getElem_map, List.getElem_map, e, hkc]
    exact hjk ((List.getElem_inj hnd).1 this)
  have hL2 : (partsOf S i).eraseIdx k = (partsOf S i).filter fun x => decide (x.comp ≠ (c : Int)) := eraseIdx_filter (fun x => decide (x.comp ≠ (c : Int))) _ k hk (by simp [hkc]) (fun j hj hjk => by simpa using hone j hj hjk)
  have hlen : (partsOf S i).length ≤ 32 := by
    have := congrArg List.length hmap
    simp only [List.length_map] at this
    have := listF_len S.masks[n]
    omega
  have hLc : ((partsOf S i).filter fun x => decide (x.comp ≠ (c : Int))).map (·.comp) = (listF (andN S.masks[n] (2 ^ c))).map (fun c : Nat => (c : Int)) := by
    rw [listF_without hc32]
    have e1 : ((partsOf S i).filter fun x => decide (x.comp ≠ (c : Int))).map (·.comp) = ((partsOf S i).map (·.comp)).filter fun x => decide (x ≠ (c : Int)) := by
      rw [List.filter_map]; rfl
    rw [e1, hmap, List.filter_map]
    congr 1
    apply List.filter_congr
    intro x _
    simp
    omega
  have hfit' : ∀ x ∈ (partsOf S i).filter (fun x => decide (x.comp ≠ (c : Int))), FitsP S.cs x := fun x hx => hfit x (List.mem_filter.1 hx).1
  have hm'lt : andN S.masks[n] (2 ^ c) < 2 ^ S.cs.length := by
    have : andN S.masks[n] (2 ^ c) ≤ S.masks[n] := Nat.and_le_left
    omega
  have hm' := comps_mask hcs hfit' hm'lt hLc
  rw [ptrV]
  refine f24_ok ?_
  unfold f24
  refine knew_of fun w2 hm2 hs2 hb2 => ?_
  have hb2 : blk w2 w.heap.size = some (.cells #[.int .i64 i, .int .i64 g] 37) := hb2
  refine knew_of fun w4 hm4 hs4 hb4 => ?_
  have hb4 : blk w4 w2.heap.size = some (.cells #[.int .i64 c] 3) := hb4
  refine knew_of fun w6 hm6 hs6 hb6 => ?_
  have he6 := hm6.get (hm4.get hb2 (fun h => h)) (fun h => h)
  have hc6 := hm6.get hb4 (fun h => h)
  have m6 : Same w w6 := (hm2.trans hm4).trans hm6
  have hP6 := h.cut m6
  have hcutn : ∀ k, w.heap.size ≤ k → cutL o w.heap.size k = none := fun k hk => cutL_none hk
  have hDo0 : cutL o w.heap.size 18 = none := by
    unfold cutL; split
    · exact hDo
    · rfl
  repeat (first | refine kN_at ?_ | refine kB_at ?_ | refine kfld_of ?_ | refine kext_at rfl ?_ | refine kld_at he6 rfl ?_ | refine kld_at hc6 rfl ?_ | refine kldN_at he6 rfl (by omega) ?_ | refine kldN_at hc6 rfl (by omega) ?_ | refine kG_of (by first | exact rfl | omega) ?_ | refine klen_at ?_ | refine eql_at ?_ | refine neq_at ?_ | refine lss_at ?_ | refine leq_at ?_ | refine gtr_at ?_ | refine geq_at ?_ | refine add_at (by omega) (by omega) ?_ | refine sub_at (by omega) (by omega) ?_ | refine not_at ?_ | refine kO_at ?_ | refine kprt_at rfl ?_ | refine kprtN_at rfl ?_ | refine kcap_at ?_ | refine klenStr_at ?_ | refine kN_iat ?_ | refine kN_fat ?_ | refine kIf_T (by first | exact rfl | exact decT (by omega) | exact notT (decF (by omega))) ?_ | refine kIf_F (by first | exact rfl | exact decF (by omega) | exact notF (decT (by omega))) ?_)
  refine kcall_of (sGet_spec hP6 hg hsp hn hcm (hcol c hcm)) ?_
  rintro v w10 ⟨rfl, h10⟩
  rw [← hqe]
  repeat (first | refine kN_at ?_ | refine kB_at ?_ | refine kfld_of ?_ | refine kext_at rfl ?_ | refine kG_of (by first | exact rfl | omega) ?_ | refine klen_at ?_ | refine eql_at ?_ | refine neq_at ?_ | refine lss_at ?_ | refine leq_at ?_ | refine gtr_at ?_ | refine geq_at ?_ | refine add_at (by omega) (by omega) ?_ | refine sub_at (by omega) (by omega) ?_ | refine not_at ?_ | refine kO_at ?_ | refine kprt_at rfl ?_ | refine kprtN_at rfl ?_ | refine kcap_at ?_ | refine klenStr_at ?_ | refine kN_iat ?_ | refine kN_fat ?_ | refine kIf_T (by first | exact rfl | exact decT (by omega) | exact notT (decF (by omega))) ?_ | refine kIf_F (by first | exact rfl | exact decF (by omega) | exact notF (decT (by omega))) ?_)
  refine knew_of fun w14 h14 hs14 hb14 => ?_
  refine kst_of (vs := q.cells) hb14 rfl rfl rfl (by simp) (by simp [Part.cells]) fun w15 h15 hs15 hb15 => ?_
  have hb15 : blk w15 w10.heap.size = some (.cells q.cells.toArray 49) := hb15
  rw [keq_nil_nil' ifErr]
  refine kB_at ?_
  refine kIf_F rfl ?_
  unfold f24_0
  have hsz10 := h10.size
  have m15 : Same w6 w15.drew := (h10.trans h14).trans' (h15.drew.mono fun k _ e => .inr (by omega))
  have hq15 : blk w15.drew w10.heap.size = some (.cells q.cells.toArray 49) := hb15
  have hs15 : w15.drew.heap.size = w10.heap.size + 1 := by show w15.heap.size = _; omega
  generalize w15.drew = wa at *
  have hPa := hP6.same m15
  have hba := hPa.here
  obtain ⟨bs, csc, arr, tt, es, hbs, s1, s2, s3⟩ := hPa.spots.viewF (F := spotC) (sz := 2) (fun _ => rfl) (by omega) (show 0 < S.spots.length by omega)
  rw [es] at hba
  have hea := m15.get he6 (fun h => h)
  have hca := m15.get hc6 (fun h => h)
  have hra := m15.get hb6 (fun h => h)
  obtain ⟨hil, hsi⟩ := List.getElem?_eq_some_iff.1 hsp
  have hsii := s3 i hil
  rw [hsi] at hsii
  repeat (first | refine kN_at ?_ | refine kB_at ?_ | refine kfld_of ?_ | refine kext_at rfl ?_ | refine kld_at hba rfl ?_ | refine kld_at hea rfl ?_ | refine kldN_at hba rfl (by omega) ?_ | refine kldN_at hea rfl (by omega) ?_ | refine kG_of (by first | exact rfl | omega) ?_ | refine klen_at ?_ | refine eql_at ?_ | refine neq_at ?_ | refine lss_at ?_ | refine leq_at ?_ | refine gtr_at ?_ | refine geq_at ?_ | refine add_at (by omega) (by omega) ?_ | refine sub_at (by omega) (by omega) ?_ | refine not_at ?_ | refine kO_at ?_ | refine kprt_at rfl ?_ | refine kprtN_at rfl ?_ | refine kcap_at ?_ | refine klenStr_at ?_ | refine kN_iat ?_ | refine kN_fat ?_ | refine kIf_T (by first | exact rfl | exact decT (by omega) | exact notT (decF (by omega))) ?_ | refine kIf_F (by first | exact rfl | exact decF (by omega) | exact notF (decT (by omega))) ?_)
  rw [kix_slice]
  refine kG_of (by omega) ?_
  rw [add_mk, Nat.zero_add, Int.toNat_natCast]
  refine kfld_of ?_
  refine kld_of (v := .int .i64 n) hbs (by have := seg_nth hsii (j := 0) rfl; simpa [natV] using this) ?_
  refine kG_of rfl ?_
  repeat (first | refine kN_at ?_ | refine kB_at ?_ | refine kfld_of ?_ | refine kext_at rfl ?_ | refine kld_at hca rfl ?_ | refine kldN_at hca rfl (by omega) ?_ | refine kG_of (by first | exact rfl | omega) ?_ | refine klen_at ?_ | refine eql_at ?_ | refine neq_at ?_ | refine lss_at ?_ | refine leq_at ?_ | refine gtr_at ?_ | refine geq_at ?_ | refine add_at (by omega) (by omega) ?_ | refine sub_at (by omega) (by omega) ?_ | refine not_at ?_ | refine kO_at ?_ | refine kprt_at rfl ?_ | refine kprtN_at rfl ?_ | refine kcap_at ?_ | refine klenStr_at ?_ | refine kN_iat ?_ | refine kN_fat ?_ | refine kIf_T (by first | exact rfl | exact decT (by omega) | exact notT (decF (by omega))) ?_ | refine kIf_F (by first | exact rfl | exact decF (by omega) | exact notF (decT (by omega))) ?_)
  refine kcall_of (withoutAt_spec hPa.atlas n hnm c hc16 (by omega)) ?_
  rintro v w32 ⟨rfl, o2, hl2, hA2, hm32⟩
  have hP32 := hPa.setAtlas (by omega) hl2 hm32 hA2
  repeat (first | refine kN_at ?_ | refine kB_at ?_ | refine kfld_of ?_ | refine kext_at rfl ?_ | refine kG_of (by first | exact rfl | omega) ?_ | refine klen_at ?_ | refine eql_at ?_ | refine neq_at ?_ | refine lss_at ?_ | refine leq_at ?_ | refine gtr_at ?_ | refine geq_at ?_ | refine add_at (by omega) (by omega) ?_ | refine sub_at (by omega) (by omega) ?_ | refine not_at ?_ | refine kO_at ?_ | refine kprt_at rfl ?_ | refine kprtN_at rfl ?_ | refine kcap_at ?_ | refine klenStr_at ?_ | refine kN_iat ?_ | refine kN_fat ?_ | refine kIf_T (by first | exact rfl | exact decT (by omega) | exact notT (decF (by omega))) ?_ | refine kIf_F (by first | exact rfl | exact decF (by omega) | exact notF (decT (by omega))) ?_)
  rw [keq_nil_nil' ifErr]
  refine kB_at ?_
  refine kIf_F rfl ?_
  unfold f24_1
  have hsz2 := hm2.size
  have hsz32 := hm32.size
  have hu0 : ∀ k, w.heap.size ≤ k → k < wa.heap.size → o2 k = none := fun k h1 h2 => by rw [hl2 k h2]; exact hcutn k h1
  have hFu : ∀ {T : Tag → Prop} k, w.heap.size ≤ k → ¬ FP (cutL o w.heap.size) T k := fun k hk ⟨t, e1, _⟩ => by rw [hcutn k hk] at e1; cases e1
  have md : Same w32 w32.drew := (Mod.refl (fun _ => False) _).drew
  have hq32 : blk w32.drew w10.heap.size = _ := hm32.get hq15 (hFu _ (by omega))
  have he32 : blk w32.drew w.heap.size = _ := hm32.get hea (hFu _ (by omega))
  have hc32' : blk w32.drew w2.heap.size = _ := hm32.get hca (hFu _ (by omega))
  have hr32 : blk w32.drew w4.heap.size = _ := hm32.get hra (hFu _ (by omega))
  have hPc := hP32.frame md (fun _ _ _ h => h) (LabEq.cut w32 o2)
  have hu2 : ∀ k, w.heap.size ≤ k → k < wa.heap.size → cutL o2 w32.heap.size k = none := fun k h1 h2 => by
    unfold cutL; rw [if_pos (by omega)]; exact hu0 k h1 h2
  have hDlt := hD.lt
  have hDc : cutL o2 w32.heap.size 18 = none := by
    have := m6.size
    have := m15.size
    unfold cutL
    rw [if_pos (by omega), hl2 _ (by omega)]
    exact hDo0
  have hD32 : DeAt w32 := ((hD.same m6).same m15).mod hm32 fun ⟨t, e1, _⟩ => by rw [hDo0] at e1; cases e1
  have hD32 : DeAt w32.drew := hD32.same md
  have hm32c := hl2.trans (LabEq.cut w32 o2) hm32.size
  have hs32 : w32.drew.heap.size = w32.heap.size := rfl
  generalize hocd : cutL o2 w32.heap.size = oc at *
  generalize w32.drew = wb at *
  repeat (first | refine kN_at ?_ | refine kB_at ?_ | refine kfld_of ?_ | refine kext_at rfl ?_ | refine kld_at hq32 rfl ?_ | refine kld_at he32 rfl ?_ | refine kldN_at hq32 rfl (by omega) ?_ | refine kldN_at he32 rfl (by omega) ?_ | refine kG_of (by first | exact rfl | omega) ?_ | refine klen_at ?_ | refine eql_at ?_ | refine neq_at ?_ | refine lss_at ?_ | refine leq_at ?_ | refine gtr_at ?_ | refine geq_at ?_ | refine add_at (by omega) (by omega) ?_ | refine sub_at (by omega) (by omega) ?_ | refine not_at ?_ | refine kO_at ?_ | refine kprt_at rfl ?_ | refine kprtN_at rfl ?_ | refine kcap_at ?_ | refine klenStr_at ?_ | refine kN_iat ?_ | refine kN_fat ?_ | refine kIf_T (by first | exact rfl | exact decT (by omega) | exact notT (decF (by omega))) ?_ | refine kIf_F (by first | exact rfl | exact decF (by omega) | exact notF (decT (by omega))) ?_)
  refine kcall_of (move_at hD32 hPc hDc hG h.tle ht hg (bc := w2.heap.size) (by omega) (hu2 _ (by omega) (by omega)) (without_turns hc32' hk hkc hone (by omega)) (by rw [hL2]) hLc hm' hfit') ?_
  rintro v w43 ⟨rfl, S', hG', hW, hTu⟩
  obtain ⟨o5, p5, hl5, hP5, hm5, hc5⟩ := id hTu
  have hF5 : ∀ {T : Tag → Prop} k, w.heap.size ≤ k → k < wa.heap.size → ¬ FP oc T k := fun k h1 h2 ⟨t, e1, _⟩ => by rw [hu2 k h1 h2] at e1; cases e1
  have hq43 := hm5.get hq32 (hF5 _ (by omega) (by omega))
  have hr43 := hm5.get hr32 (hF5 _ (by omega) (by have := m15.size; omega))
  refine kG_of (kldN_at hq43 rfl (by omega) ⟨rfl, rfl⟩) ?_
  refine kst_of (vs := q.cells) hr43 rfl rfl rfl (by simp) (by simp [Part.cells]) fun w44 h44 hs44 hb44 => ?_
  have hb44 : blk w44 w4.heap.size = some (.cells q.cells.toArray 49) := hb44
  repeat (first | refine kN_at ?_ | refine kB_at ?_ | refine kfld_of ?_ | refine kext_at rfl ?_ | refine kld_at hb44 rfl ?_ | refine kldN_at hb44 rfl (by omega) ?_ | refine kG_of (by first | exact rfl | omega) ?_ | refine klen_at ?_ | refine eql_at ?_ | refine neq_at ?_ | refine lss_at ?_ | refine leq_at ?_ | refine gtr_at ?_ | refine geq_at ?_ | refine add_at (by omega) (by omega) ?_ | refine sub_at (by omega) (by omega) ?_ | refine not_at ?_ | refine kO_at ?_ | refine kprt_at rfl ?_ | refine kprtN_at rfl ?_ | refine kcap_at ?_ | refine klenStr_at ?_ | refine kN_iat ?_ | refine kN_fat ?_ | refine kIf_T (by first | exact rfl | exact decT (by omega) | exact notT (decF (by omega))) ?_ | refine kIf_F (by first | exact rfl | exact decF (by omega) | exact notF (decT (by omega))) ?_)
  refine ⟨rfl, S', hG', hW, ?_⟩
  refine Turned.wrap m6 ?_ (h44.mono fun k _ e => by subst e; omega)
  refine Turned.seq (o1 := cutL o w.heap.size) (w1 := w6) (LabEq.refl _ _) (Mod.refl _ _) m15 ?_
  exact Turned.seq (o1 := oc) (w1 := w32) hm32c (hm32.mono fun k _ hk => FP.mono (fun _ _ => trivial) hk) md hTu
end Go.Proofs.YtlkpadfkmdgjcaaGreatDoor
end
section
set_option linter.unusedSimpArgs false
set_option linter.unusedVariables false
namespace Go.Proofs.YtlkpadfkmdgjcaaGreatDoor
open Go Go.Ev
set_option linter.unusedVariables false
set_option linter.unusedSimpArgs false
set_option maxRecDepth 100000
attribute [local irreducible] kO kB kStr kInt kN kG kIf kfld kld kldN kst knew kmap kbld kbldS kext kcnv klenStr klen kcap kprt kprtN kbool kint kstr keq kun ksl kix kiv kta kmk kmm ksem ksemU kextf kcallV kcallM kcall kL

/-! ### Who matches, who was changed -/
def rowsOf (S : SM) (n : Nat) : List (Int × Int) := match S.tabs[n]? with
  | some T => T.rows
  | none => []
theorem rowsOf_eq {S : SM} {n : Nat} (hn : n < S.tabs.length) : rowsOf S n = S.tabs[n].rows := by
  unfold rowsOf; rw [List.getElem?_eq_getElem hn]
theorem flat_take_succ {α β : Type} (f : α → List β) (l : List α) (j : Nat) (h : j < l.length) : (l.take (j + 1)).flatMap f = (l.take j).flatMap f ++ f l[j] := by
  rw [List.take_add_one, List.getElem?_eq_getElem h, List.flatMap_append]; simp
theorem flat_le {α β : Type} (f : α → List β) (K : Nat) : ∀ (l : List α), (∀ x ∈ l, (f x).length ≤ K) → (l.flatMap f).length ≤ l.length * K
  | [], _ => by simp
  | x :: l, h => by
    have h1 := h x (by simp)
    have h2 := flat_le f K l (fun y hy => h y (by simp [hy]))
    rw [List.flatMap_cons, List.length_append, List.length_cons, Nat.add_mul]; omega
theorem apEnts : appT Tryz.prog 42 2 16 = true := by kernel_rfl
theorem matchL_lt {wi wo : Nat} {masks : List Nat} {n : Nat} (h : n ∈ matchL wi wo masks) : n < masks.length := by
  unfold matchL at h
  obtain ⟨⟨m, k⟩, hx, rfl⟩ := List.mem_map.1 h
  have := List.mem_zipIdx (List.mem_filter.1 hx).1
  simp at this; omega
theorem sMatch_spec {o : Lab} {w : World} {b : Nat} {p : Ptrs} {S : SM} (h : StoreP o w b p S) (hml : S.tabs.length = S.masks.length) (hr : ∀ n, (rowsOf S n).length ≤ 64) (wi wo : Nat) (hwi : wi < 4294967296) (hwo : wo < 4294967296) :
    Meets Tryz.prog 16 #[ptrV b, msk wi, msk wo] w fun v w' => ∃ L' : List (Int × Int), L'.Perm ((matchL wi wo S.masks).flatMap (rowsOf S)) ∧ L'.Pairwise (fun x y => x.1 ≤ y.1) ∧ Own w' v 2 (L'.flatMap entC) ∧ Same w w' ∧ ∀ k, vblk v k → w.heap.size ≤ k := by
  have hb := h.here
  have hm90 := h.mle
  rw [ptrV]
  refine f16_ok ?_
  unfold f16
  rw [keq_ptr_nil ptSto]
  repeat (first | refine kN_at ?_ | refine kB_at ?_ | refine kfld_of ?_ | refine kext_at rfl ?_ | refine kld_at hb rfl ?_ | refine kldN_at hb rfl (by omega) ?_ | refine kG_of (by first | exact rfl | omega) ?_ | refine klen_at ?_ | refine eql_at ?_ | refine neq_at ?_ | refine lss_at ?_ | refine leq_at ?_ | refine gtr_at ?_ | refine geq_at ?_ | refine add_at (by omega) (by omega) ?_ | refine sub_at (by omega) (by omega) ?_ | refine not_at ?_ | refine kO_at ?_ | refine kprt_at rfl ?_ | refine kprtN_at rfl ?_ | refine kcap_at ?_ | refine klenStr_at ?_ | refine kN_iat ?_ | refine kN_fat ?_ | refine kIf_T (by first | exact rfl | exact decT (by omega) | exact notT (decF (by omega))) ?_ | refine kIf_F (by first | exact rfl | exact decF (by omega) | exact notF (decT (by omega))) ?_)
  refine kcall_of (aMatch_spec h.atlas wi wo hwi hwo) ?_
  rintro v w6 ⟨hOv, h6, hfv⟩
  obtain ⟨va, vn, vc, rfl, hvs, hvn⟩ := hOv.is
  have hvn : vn = (matchL wi wo S.masks).length := by simpa using hvn rfl
  subst hvn
  have hmL := matchL_len wi wo S.masks
  refine klen_at ?_
  refine kL2_of (matchL wi wo S.masks).length (fun j x y wr => y = .int .i64 j ∧ Own wr x 2 (((matchL wi wo S.masks).take j).flatMap (rowsOf S) |>.flatMap entC) ∧ Same w6 wr ∧ ∀ k, vblk x k → w6.heap.size ≤ k) ⟨lI2_0 ⟨rfl, Own.nil _ _, Mod.refl _ _, fun k hk => by obtain ⟨_, _, _, e⟩ := hk; cases e⟩, fun x y wr hx => ?_⟩
  obtain ⟨j, hj, ⟨rfl, hO, hm, hfx⟩, hJ⟩ := lI2_step hx
  have hbig : (((matchL wi wo S.masks).take j).flatMap (rowsOf S)).length ≤ 90000 * 64 := by
    have h1 := flat_le (rowsOf S) 64 ((matchL wi wo S.masks).take j) (fun x _ => hr x)
    have h2 : ((matchL wi wo S.masks).take j).length ≤ 90000 := by rw [List.length_take]; omega
    have := Nat.mul_le_mul_right 64 h2
    omega
  refine lss_at ?_
  refine kB_at ?_
  refine kIf_dec (fun hlt => ?_) (fun hge => ?_)
  · have hlt : j < (matchL wi wo S.masks).length := by omega
    have hni : (matchL wi wo S.masks)[j] < S.tabs.length := by rw [hml]; exact matchL_lt (List.getElem_mem hlt)
    have hPr := h.same (h6.trans hm)
    have hbr := hPr.here
    obtain ⟨ta, tc, et, hts⟩ := hPr.ptab hni
    rw [et] at hbr
    refine kixld_of (F := natV) (l := matchL wi wo S.masks) (hvs.same hm) hlt rfl ?_
    rw [natV]
    have ets := flat_take_succ (rowsOf S) (matchL wi wo S.masks) j hlt
    have hrj := hr (matchL wi wo S.masks)[j]
    generalize hnn : (matchL wi wo S.masks)[j] = n at *
    have hT := hPr.tab n hni
    obtain ⟨q1, rv, bm, q2, q3, q4, q5, q6, q7⟩ := id hT
    repeat (first | refine kN_at ?_ | refine kB_at ?_ | refine kfld_of ?_ | refine kext_at rfl ?_ | refine kld_at hbr rfl ?_ | refine kldN_at hbr rfl (by omega) ?_ | refine kG_of (by first | exact rfl | omega) ?_ | refine klen_at ?_ | refine eql_at ?_ | refine neq_at ?_ | refine lss_at ?_ | refine leq_at ?_ | refine gtr_at ?_ | refine geq_at ?_ | refine add_at (by omega) (by omega) ?_ | refine sub_at (by omega) (by omega) ?_ | refine not_at ?_ | refine kO_at ?_ | refine kprt_at rfl ?_ | refine kprtN_at rfl ?_ | refine kcap_at ?_ | refine klenStr_at ?_ | refine kN_iat ?_ | refine kN_fat ?_ | refine kIf_T (by first | exact rfl | exact decT (by omega) | exact notT (decF (by omega))) ?_ | refine kIf_F (by first | exact rfl | exact decF (by omega) | exact notF (decT (by omega))) ?_)
    have ele : (List.range S.tabs.length).length = S.tabs.length := List.length_range
    refine kixld_of (F := fun i => ptrV (p.pt i)) (c := tc) (l := List.range S.tabs.length) hts (show n < (List.range S.tabs.length).length by omega) rfl ?_ |> fun h => by rw [ele] at h; exact h
    rw [List.getElem_range, ptrV]
    repeat (first | refine kN_at ?_ | refine kB_at ?_ | refine kfld_of ?_ | refine kext_at rfl ?_ | refine kld_at q2 rfl ?_ | refine kldN_at q2 rfl (by omega) ?_ | refine kG_of (by first | exact rfl | omega) ?_ | refine klen_at ?_ | refine eql_at ?_ | refine neq_at ?_ | refine lss_at ?_ | refine leq_at ?_ | refine gtr_at ?_ | refine geq_at ?_ | refine add_at (by omega) (by omega) ?_ | refine sub_at (by omega) (by omega) ?_ | refine not_at ?_ | refine kO_at ?_ | refine kprt_at rfl ?_ | refine kprtN_at rfl ?_ | refine kcap_at ?_ | refine klenStr_at ?_ | refine kN_iat ?_ | refine kN_fat ?_ | refine kIf_T (by first | exact rfl | exact decT (by omega) | exact notT (decF (by omega))) ?_ | refine kIf_F (by first | exact rfl | exact decF (by omega) | exact notF (decT (by omega))) ?_)
    have q3 : Own wr rv 2 ((rowsOf S n).flatMap entC) := by rw [rowsOf_eq hni]; exact q3
    obtain ⟨ra, rn, rc, rfl, hrs, _⟩ := q3.is
    refine ksem_append apEnts (by omega) hO (Src.ofSlIs (hk := slEnt_is.choose_spec) rc hrs (ones_ent _)) (by rw [flat_len entC 2 (fun _ => rfl), flat_len entC 2 (fun _ => rfl)]; omega) (by rw [flat_len entC 2 (fun _ => rfl), flat_len entC 2 (fun _ => rfl)]; omega) ?_
    intro v' w' ho hm' hf'
    repeat (first | refine kN_at ?_ | refine kB_at ?_ | refine kfld_of ?_ | refine kext_at rfl ?_ | refine kG_of (by first | exact rfl | omega) ?_ | refine klen_at ?_ | refine eql_at ?_ | refine neq_at ?_ | refine lss_at ?_ | refine leq_at ?_ | refine gtr_at ?_ | refine geq_at ?_ | refine add_at (by omega) (by omega) ?_ | refine sub_at (by omega) (by omega) ?_ | refine not_at ?_ | refine kO_at ?_ | refine kprt_at rfl ?_ | refine kprtN_at rfl ?_ | refine kcap_at ?_ | refine klenStr_at ?_ | refine kN_iat ?_ | refine kN_fat ?_ | refine kIf_T (by first | exact rfl | exact decT (by omega) | exact notT (decF (by omega))) ?_ | refine kIf_F (by first | exact rfl | exact decF (by omega) | exact notF (decT (by omega))) ?_)
    rw [cast_succ]
    refine hJ _ _ _ hlt ⟨rfl, ?_, hm.trans' (hm'.mono fun k _ e => .inr (hfx k e)), fun k hk => ?_⟩
    · rw [ets, List.flatMap_append]; exact ho
    · rcases hf' k hk with h | h
      · exact hfx k h
      · have := hm.size; omega
  · have : j = (matchL wi wo S.masks).length := by omega
    subst this
    rw [List.take_length] at hO hbig
    refine kcall_of (listed_spec hO (by omega)) ?_
    rintro r w22 ⟨rfl, L', g1, g2, g3, g4⟩
    have := h6.size
    refine ⟨L', g1, g2, g3, (h6.trans hm).trans' (g4.mono fun k _ e => .inr (by have := hfx k e; omega)), fun k hk => by have := hfx k hk; omega⟩
end Go.Proofs.YtlkpadfkmdgjcaaGreatDoor
end
section
set_option linter.unusedSimpArgs false
set_option linter.unusedVariables false
namespace Go.Proofs.YtlkpadfkmdgjcaaGreatDoor
open Go Go.Ev
set_option linter.unusedVariables false
set_option linter.unusedSimpArgs false
set_option maxRecDepth 100000
attribute [local irreducible] kO kB kStr kInt kN kG kIf kfld kld kldN kst knew kmap kbld kbldS kext kcnv klenStr klen kcap kprt kprtN kbool kint kstr keq kun ksl kix kiv kta kmk kmm ksem ksemU kextf kcallV kcallM kcall kL

theorem sinceL_lt {frame : Int} {rows : List Part} {x : Nat} (h : x ∈ sinceL frame rows) : x < rows.length := by
  unfold sinceL at h
  obtain ⟨⟨m, k⟩, hx, rfl⟩ := List.mem_map.1 h
  have := List.mem_zipIdx (List.mem_filter.1 hx).1
  simp at this; omega
def rowAt (T : TabM) (x : Nat) : Int × Int := (T.rows[x]?).getD (0, 0)
/-- Those of a table whose component was changed. -/
def chgOf (S : SM) (c : Nat) (frame : Int) (n : Nat) : List (Int × Int) := match S.tabs[n]? with
  | some T => if c ∈ compsM S.masks n then (sinceL frame (T.col c)).map (rowAt T) else []
  | none => []
theorem lookSince {o : Lab} {w : World} {b i c : Nat} {comps : List Nat} {wd pc : Nat → Nat} {T : TabM} (h : TabAt o w b i comps wd pc T) (frame : Int) {bm : Nat} {K : Value → World → Prop} (hM : MapIs w bm .i64 (comps.map fun (c : Nat) => ((c : Int), ptrV (pc c))))
    (hk : ∀ v w15 l1, l1 = (if c ∈ comps then sinceL frame (T.col c) else []) → l1.map (rowAt T) = (if c ∈ comps then (sinceL frame (T.col c)).map (rowAt T) else []) → Own w15 v 1 (l1.map natV) → Same w w15 → (∀ k, vblk v k → w.heap.size ≤ k) → K v w15) :
    ksem Tryz.prog (Instr.lookup 147 (.map (some bm)) (.int .i64 c) false) w fun v12 w13 => kcall Tryz.prog 100 #[v12, .int .i64 frame] w13 K := by
  by_cases hc : c ∈ comps
  · refine klook_of Tryz.underlying147 Tryz.underlying3 zCol hM (r := some (_, _)) (by rw [lk_comps, if_pos hc]) ?_
    refine kcall_of (cSince_spec (h.col hc) frame) ?_
    rintro v w' ⟨h1, h2, h3⟩
    exact hk v w' _ rfl (by rw [if_pos hc, if_pos hc]) (by rw [if_pos hc]; exact h1) h2 h3
  · have hne : ∀ x ∈ comps, (x : Int) ≠ (c : Int) := fun x hx e => hc (by
      have : x = c := by omega
      exact this ▸ hx)
    refine klook_of Tryz.underlying147 Tryz.underlying3 zCol hM (r := none) (by rw [lk_none (fun c => ptrV (pc c)) c _ hne]) ?_
    refine kcall_of (cSinceNil_spec w frame) ?_
    rintro v w' ⟨rfl, rfl⟩
    exact hk _ _ _ rfl (by rw [if_neg hc, if_neg hc]; rfl) (by rw [if_neg hc]; exact Own.nil _ _) (Mod.refl _ _) (fun k hk => by obtain ⟨_, _, _, e⟩ := hk; cases e)
theorem sChanged_spec {o : Lab} {w : World} {b : Nat} {p : Ptrs} {S : SM} (h : StoreP o w b p S) (hr : ∀ n, (rowsOf S n).length ≤ 64) (hcols : ∀ n T c, S.tabs[n]? = some T → c ∈ compsM S.masks n → (T.col c).length = T.rows.length) (c : Nat) (frame : Int) :
    Meets Tryz.prog 30 #[ptrV b, .int .i64 c, .int .i64 frame] w fun v w' => ∃ L' : List (Int × Int), L'.Perm ((List.range S.tabs.length).flatMap (chgOf S c frame)) ∧ L'.Pairwise (fun x y => x.1 ≤ y.1) ∧ Own w' v 2 (L'.flatMap entC) ∧ Same w w' ∧ ∀ k, vblk v k → w.heap.size ≤ k := by
  have hb := h.here
  have hm90 := h.mle
  have htle := h.tle
  obtain ⟨ta, tn, tc, et, hts, htn⟩ := h.tabs.is
  have htn : tn = S.tabs.length := by simpa using htn rfl
  subst htn
  rw [et] at hb
  have hlen : ∀ n, (chgOf S c frame n).length ≤ 64 := fun n => by
    unfold chgOf
    cases hT : S.tabs[n]? with
    | none => simp
    | some T =>
      simp only
      split
      · rename_i hc
        have h1 := sinceL_len frame (T.col c)
        have h2 := hcols n T c hT hc
        have h3 := hr n
        unfold rowsOf at h3
        rw [hT] at h3
        simp only at h3
        rw [List.length_map]; omega
      · simp
  rw [ptrV]
  refine f30_ok ?_
  unfold f30
  rw [keq_ptr_nil ptSto]
  repeat (first | refine kN_at ?_ | refine kB_at ?_ | refine kfld_of ?_ | refine kext_at rfl ?_ | refine kld_at hb rfl ?_ | refine kldN_at hb rfl (by omega) ?_ | refine kG_of (by first | exact rfl | omega) ?_ | refine klen_at ?_ | refine eql_at ?_ | refine neq_at ?_ | refine lss_at ?_ | refine leq_at ?_ | refine gtr_at ?_ | refine geq_at ?_ | refine add_at (by omega) (by omega) ?_ | refine sub_at (by omega) (by omega) ?_ | refine not_at ?_ | refine kO_at ?_ | refine kprt_at rfl ?_ | refine kprtN_at rfl ?_ | refine kcap_at ?_ | refine klenStr_at ?_ | refine kN_iat ?_ | refine kN_fat ?_ | refine kIf_T (by first | exact rfl | exact decT (by omega) | exact notT (decF (by omega))) ?_ | refine kIf_F (by first | exact rfl | exact decF (by omega) | exact notF (decT (by omega))) ?_)
  refine kL2_of S.tabs.length (fun j x y wr => y = .int .i64 j ∧ Own wr x 2 (((List.range j).flatMap (chgOf S c frame)).flatMap entC) ∧ Same w wr ∧ ∀ k, vblk x k → w.heap.size ≤ k) ⟨lI2_0 ⟨rfl, Own.nil _ _, Mod.refl _ _, fun k hk => by obtain ⟨_, _, _, e⟩ := hk; cases e⟩, fun x y wr hx => ?_⟩
  obtain ⟨j, hj, ⟨rfl, hO, hm, hfx⟩, hJ⟩ := lI2_step hx
  have hbig : ((List.range j).flatMap (chgOf S c frame)).length ≤ 90000 * 64 := by
    have h1 := flat_le (chgOf S c frame) 64 (List.range j) (fun x _ => hlen x)
    rw [List.length_range] at h1
    have := Nat.mul_le_mul_right 64 (show j ≤ 90000 by omega)
    omega
  unfold f30_1
  refine lss_at ?_
  refine kB_at ?_
  refine kIf_dec (fun hlt => ?_) (fun hge => ?_)
  · have hlt : j < S.tabs.length := by omega
    have hPr := h.same hm
    have hT := hPr.tab j hlt
    obtain ⟨q1, rv, bm, q20, q30, q4, q5, q60, q7⟩ := id (h.tab j hlt)
    have q2 := hm.get q20 (fun h => h)
    have q3 := q30.same hm
    have q6 := q60.mod hm (fun h => h)
    have ets : (List.range (j + 1)).flatMap (chgOf S c frame) = (List.range j).flatMap (chgOf S c frame) ++ chgOf S c frame j := by
      rw [List.range_succ, List.flatMap_append]; simp
    have hTq : S.tabs[j]? = some S.tabs[j] := List.getElem?_eq_getElem hlt
    have hrj := hr j
    rw [rowsOf_eq hlt] at hrj
    unfold f30_2
    have ele : (List.range S.tabs.length).length = S.tabs.length := List.length_range
    refine kixld_of (F := fun i => ptrV (p.pt i)) (c := tc) (l := List.range S.tabs.length) (by rw [ele]; exact hts.same hm) (show j < (List.range S.tabs.length).length by omega) rfl ?_ |> fun h => by rw [ele] at h; exact h
    rw [List.getElem_range, ptrV]
    repeat (first | refine kN_at ?_ | refine kB_at ?_ | refine kfld_of ?_ | refine kext_at rfl ?_ | refine kld_at q2 rfl ?_ | refine kldN_at q2 rfl (by omega) ?_ | refine kG_of (by first | exact rfl | omega) ?_ | refine klen_at ?_ | refine eql_at ?_ | refine neq_at ?_ | refine lss_at ?_ | refine leq_at ?_ | refine gtr_at ?_ | refine geq_at ?_ | refine add_at (by omega) (by omega) ?_ | refine sub_at (by omega) (by omega) ?_ | refine not_at ?_ | refine kO_at ?_ | refine kprt_at rfl ?_ | refine kprtN_at rfl ?_ | refine kcap_at ?_ | refine klenStr_at ?_ | refine kN_iat ?_ | refine kN_fat ?_ | refine kIf_T (by first | exact rfl | exact decT (by omega) | exact notT (decF (by omega))) ?_ | refine kIf_F (by first | exact rfl | exact decF (by omega) | exact notF (decT (by omega))) ?_)
    refine lookSince hT frame q6 (fun v w15 l1 h1 h2 hO1 h15 hf1 => ?_) 
    have hch : chgOf S c frame j = l1.map (rowAt S.tabs[j]) := by
      unfold chgOf
      rw [hTq]
      exact h2.symm
    have hl1 : ∀ x ∈ l1, x < S.tabs[j].rows.length := fun x hx => by
      by_cases hc : c ∈ compsM S.masks j
      · rw [h1, if_pos hc] at hx
        have := sinceL_lt hx
        rwa [hcols j _ c hTq hc] at this
      · rw [h1, if_neg hc] at hx; cases hx
    have hl64 : l1.length ≤ 64 := by
      have := hlen j
      rw [hch, List.length_map] at this
      exact this
    obtain ⟨va, vn, vc, rfl, hvs, hvn⟩ := hO1.is
    have hvn : vn = l1.length := by simpa using hvn rfl
    subst hvn
    refine klen_at ?_
    refine kL2_of l1.length (fun u x2 y2 w2 => y2 = .int .i64 u ∧ Own w2 x2 2 (((List.range j).flatMap (chgOf S c frame) ++ (l1.take u).map (rowAt S.tabs[j])).flatMap entC) ∧ Mod (vblk x) w15 w2 ∧ ∀ k, vblk x2 k → vblk x k ∨ w15.heap.size ≤ k) ⟨lI2_0 ⟨rfl, ?_, Mod.refl _ _, fun k hk => .inl hk⟩, fun x2 y2 w2 hx2 => ?_⟩
    · rw [List.take_zero, List.map_nil, List.append_nil]; exact hO.same h15
    obtain ⟨u, hu, ⟨rfl, hO2, hm2, hfx2⟩, hJ2⟩ := lI2_step hx2
    refine lss_at ?_
    refine kB_at ?_
    refine kIf_dec (fun hlt2 => ?_) (fun hge2 => ?_)
    · have hlt2 : u < l1.length := by omega
      have hxu := hl1 _ (List.getElem_mem hlt2)
      have q22 := hm2.get (h15.get q2 (fun h => h)) (fun e => by have := hfx _ e; have := lt_of_blk q20; omega)
      have q32 := (q3.same h15).mod hm2 (fun k hk e => by have := hfx _ e; have := q30.vblk_lt hk; omega)
      obtain ⟨ra, rn, rc, rfl, hrs, _⟩ := q32.is
      have hrn : rn = S.tabs[j].rows.length := by
        have := hrs.1
        rw [flat_len entC 2 (fun _ => rfl)] at this
        omega
      subst hrn
      have etk : (l1.take (u + 1)).map (rowAt S.tabs[j]) = (l1.take u).map (rowAt S.tabs[j]) ++ [rowAt S.tabs[j] l1[u]] := by
        rw [List.take_add_one, List.getElem?_eq_getElem hlt2, List.map_append]; rfl
      have era : rowAt S.tabs[j] l1[u] = S.tabs[j].rows[l1[u]] := by
        unfold rowAt; rw [List.getElem?_eq_getElem hxu]; rfl
      have hl2 : ((List.range j).flatMap (chgOf S c frame) ++ (l1.take u).map (rowAt S.tabs[j])).length ≤ 90000 * 64 + 64 := by
        rw [List.length_append, List.length_map, List.length_take]; omega
      refine kixld_of (F := natV) (l := l1) (hvs.mod hm2 (fun k f ek e => by have := hf1 k ⟨f, _, _, by rw [ek]⟩; have := hO.vblk_lt e; omega)) hlt2 rfl ?_
      rw [natV]
      repeat (first | refine kN_at ?_ | refine kB_at ?_ | refine kfld_of ?_ | refine kext_at rfl ?_ | refine kld_at q22 rfl ?_ | refine kldN_at q22 rfl (by omega) ?_ | refine kG_of (by first | exact rfl | omega) ?_ | refine klen_at ?_ | refine eql_at ?_ | refine neq_at ?_ | refine lss_at ?_ | refine leq_at ?_ | refine gtr_at ?_ | refine geq_at ?_ | refine add_at (by omega) (by omega) ?_ | refine sub_at (by omega) (by omega) ?_ | refine not_at ?_ | refine kO_at ?_ | refine kprt_at rfl ?_ | refine kprtN_at rfl ?_ | refine kcap_at ?_ | refine klenStr_at ?_ | refine kN_iat ?_ | refine kN_fat ?_ | refine kIf_T (by first | exact rfl | exact decT (by omega) | exact notT (decF (by omega))) ?_ | refine kIf_F (by first | exact rfl | exact decF (by omega) | exact notF (decT (by omega))) ?_)
      refine kixldN_of (F := entC) (sz := 2) (fun _ => rfl) (by omega) hrs hxu rfl ?_
      refine kbldS_of (cs := entC S.tabs[j].rows[l1[u]]) rfl fun w26 h26 hs26 hb26 => ?_
      refine ksem_append apEnts (by omega) (hO2.same h26) (Src.ofSlIs (hk := slEnt_is.choose_spec) 1 (SlIs.blk hb26 rfl) (ones_ent [S.tabs[j].rows[l1[u]]])) ?_ ?_ ?_
      · rw [flat_len entC 2 (fun _ => rfl)]; simp only [entC, List.length_cons, List.length_nil]; omega
      · rw [flat_len entC 2 (fun _ => rfl)]; simp only [entC, List.length_cons, List.length_nil]; omega
      intro v' w28 ho hm' hf'
      repeat (first | refine kN_at ?_ | refine kB_at ?_ | refine kfld_of ?_ | refine kext_at rfl ?_ | refine kG_of (by first | exact rfl | omega) ?_ | refine klen_at ?_ | refine eql_at ?_ | refine neq_at ?_ | refine lss_at ?_ | refine leq_at ?_ | refine gtr_at ?_ | refine geq_at ?_ | refine add_at (by omega) (by omega) ?_ | refine sub_at (by omega) (by omega) ?_ | refine not_at ?_ | refine kO_at ?_ | refine kprt_at rfl ?_ | refine kprtN_at rfl ?_ | refine kcap_at ?_ | refine klenStr_at ?_ | refine kN_iat ?_ | refine kN_fat ?_ | refine kIf_T (by first | exact rfl | exact decT (by omega) | exact notT (decF (by omega))) ?_ | refine kIf_F (by first | exact rfl | exact decF (by omega) | exact notF (decT (by omega))) ?_)
      rw [cast_succ]
      have h26s := h26.size
      have h15s := h15.size
      have hms := hm.size
      have hm2s := hm2.size
      refine hJ2 _ _ _ hlt2 ⟨rfl, ?_, (hm2.trans (Mod.of_same h26)).trans' (hm'.mono fun k _ e => hfx2 k e), fun k hk => ?_⟩
      · rw [etk, era, ← List.append_assoc, List.flatMap_append (ys := [S.tabs[j].rows[l1[u]]])]
        have e : [S.tabs[j].rows[l1[u]]].flatMap entC = entC S.tabs[j].rows[l1[u]] := by simp
        rw [e]; exact ho
      · rcases hf' k hk with h | h
        · exact hfx2 k h
        · exact .inr (by omega)
    · have : u = l1.length := by omega
      subst this
      rw [List.take_length] at hO2
      repeat (first | refine kN_at ?_ | refine kB_at ?_ | refine kfld_of ?_ | refine kext_at rfl ?_ | refine kG_of (by first | exact rfl | omega) ?_ | refine klen_at ?_ | refine eql_at ?_ | refine neq_at ?_ | refine lss_at ?_ | refine leq_at ?_ | refine gtr_at ?_ | refine geq_at ?_ | refine add_at (by omega) (by omega) ?_ | refine sub_at (by omega) (by omega) ?_ | refine not_at ?_ | refine kO_at ?_ | refine kprt_at rfl ?_ | refine kprtN_at rfl ?_ | refine kcap_at ?_ | refine klenStr_at ?_ | refine kN_iat ?_ | refine kN_fat ?_ | refine kIf_T (by first | exact rfl | exact decT (by omega) | exact notT (decF (by omega))) ?_ | refine kIf_F (by first | exact rfl | exact decF (by omega) | exact notF (decT (by omega))) ?_)
      rw [cast_succ]
      have h15s := h15.size
      have hms := hm.size
      refine hJ _ _ _ hlt ⟨rfl, ?_, (hm.trans h15).trans' (hm2.mono fun k _ e => .inr (hfx k e)), fun k hk => (hfx2 k hk).elim (fun h => hfx k h) (fun h => by omega)⟩
      rw [ets, hch]; exact hO2
  · have : j = S.tabs.length := by omega
    subst this
    refine kcall_of (listed_spec hO (by omega)) ?_
    rintro r w22 ⟨rfl, L', g1, g2, g3, g4⟩
    refine ⟨L', g1, g2, g3, hm.trans' (g4.mono fun k _ e => .inr (hfx k e)), fun k hk => hfx k hk⟩
end Go.Proofs.YtlkpadfkmdgjcaaGreatDoor
end
section
set_option linter.unusedSimpArgs false
set_option linter.unusedVariables false
namespace Go.Proofs.YtlkpadfkmdgjcaaGreatDoor
open Go Go.Ev
set_option linter.unusedVariables false
set_option linter.unusedSimpArgs false
set_option maxRecDepth 100000

/-! ### Lists of entities, as sets -/
theorem rows_at {S : SM} {ex : Nat → Prop} (h : WFe S ex) {n : Nat} {e : Int × Int} (he : e ∈ rowsOf S n) : ∃ (i r : Nat), e.1 = (i : Int) ∧ S.gens[i]? = some (e.2, true) ∧ S.spots[i]? = some (n, r) ∧ (rowsOf S n)[r]? = some e := by
  unfold rowsOf at *
  cases hT : S.tabs[n]? with
  | none => rw [hT] at he; cases he
  | some T =>
    rw [hT] at he
    obtain ⟨r, hr, e1⟩ := List.mem_iff_getElem.1 he
    have hre : T.rows[r]? = some e := by rw [List.getElem?_eq_getElem hr, e1]
    obtain ⟨i, e2, _, e3, e4⟩ := h.rows n T r e hT hre
    exact ⟨i, r, e2, e3, e4, hre⟩
theorem rows_mem {S : SM} (h : WF S) {n i : Nat} {g : Int} : ((i : Int), g) ∈ rowsOf S n ↔ S.gens[i]? = some (g, true) ∧ ∃ r, S.spots[i]? = some (n, r) := by
  constructor
  · intro he
    obtain ⟨j, r, e1, e2, e3, _⟩ := rows_at h he
    have : j = i := by simp at e1; omega
    subst this
    exact ⟨e2, r, e3⟩
  · rintro ⟨hg, r, hs⟩
    obtain ⟨n', r', T, h1, h2, h3⟩ := h.live i g hg (fun h => h)
    rw [hs] at h1; cases h1
    unfold rowsOf
    rw [h2]
    exact List.mem_iff_getElem?.2 ⟨r, h3⟩
theorem rows_nd {S : SM} {ex : Nat → Prop} (h : WFe S ex) (n : Nat) : (rowsOf S n).Nodup := by
  unfold rowsOf
  cases hT : S.tabs[n]? with
  | none => exact List.nodup_nil
  | some T =>
    simp only
    unfold List.Nodup
    rw [List.pairwise_iff_getElem]
    intro a b ha hb hab e
    obtain ⟨i, e1, _, _, e4⟩ := h.rows n T a _ hT (List.getElem?_eq_getElem ha)
    obtain ⟨j, f1, _, _, f4⟩ := h.rows n T b _ hT (List.getElem?_eq_getElem hb)
    have : i = j := by rw [e] at e1; omega
    subst this
    rw [e4] at f4; cases f4; omega
theorem rows_one {S : SM} {ex : Nat → Prop} (h : WFe S ex) {n n' : Nat} {e : Int × Int} (h1 : e ∈ rowsOf S n) (h2 : e ∈ rowsOf S n') : n = n' := by
  obtain ⟨i, r, e1, _, e3, _⟩ := rows_at h h1
  obtain ⟨j, r', f1, _, f3, _⟩ := rows_at h h2
  have : i = j := by omega
  subst this
  rw [e3] at f3; cases f3; rfl
theorem flat_nd {S : SM} {ex : Nat → Prop} (h : WFe S ex) {ns : List Nat} (hn : ns.Nodup) {f : Nat → List (Int × Int)} (hf : ∀ n, (f n).Nodup) (hsub : ∀ n, ∀ e ∈ f n, e ∈ rowsOf S n) : (ns.flatMap f).Nodup := by
  unfold List.Nodup
  rw [List.pairwise_flatMap]
  refine ⟨fun n _ => hf n, hn.imp fun hab x hx y hy e => ?_⟩
  subst e
  exact hab (rows_one h (hsub _ _ hx) (hsub _ _ hy))
theorem sinceL_nd (frame : Int) (rows : List Part) : (sinceL frame rows).Nodup := by
  unfold sinceL
  have h1 : (rows.zipIdx.map (·.2)).Nodup := by
    have : rows.zipIdx.map (·.2) = List.range rows.length := by simp [List.range_eq_range']
    rw [this]; exact List.nodup_range
  exact List.Nodup.sublist (List.Sublist.map _ List.filter_sublist) h1
theorem matchL_nd (wi wo : Nat) (masks : List Nat) : (matchL wi wo masks).Nodup := by
  unfold matchL
  have h1 : (masks.zipIdx.map (·.2)).Nodup := by
    have : masks.zipIdx.map (·.2) = List.range masks.length := by simp [List.range_eq_range']
    rw [this]; exact List.nodup_range
  exact List.Nodup.sublist (List.Sublist.map _ List.filter_sublist) h1
theorem matchL_mem {wi wo : Nat} {masks : List Nat} {n : Nat} : n ∈ matchL wi wo masks ↔ ∃ h : n < masks.length, matchP wi wo masks[n] = true := by
  unfold matchL
  rw [List.mem_map]
  constructor
  · rintro ⟨⟨m, k⟩, hx, rfl⟩
    obtain ⟨h1, h2⟩ := List.mem_filter.1 hx
    obtain ⟨_, h3, h4⟩ := List.mem_zipIdx h1
    simp only [Nat.zero_add, Nat.sub_zero] at h3 h4
    exact ⟨h3, by rw [← h4]; exact h2⟩
  · rintro ⟨h, hm⟩
    refine ⟨(masks[n], n), List.mem_filter.2 ⟨?_, hm⟩, rfl⟩
    rw [List.mem_zipIdx_iff_getElem?]
    exact List.getElem?_eq_getElem h
theorem sinceL_mem {frame : Int} {rows : List Part} {x : Nat} : x ∈ sinceL frame rows ↔ ∃ h : x < rows.length, frame ≤ (rows[x]).tick := by
  unfold sinceL
  rw [List.mem_map]
  constructor
  · rintro ⟨⟨m, k⟩, hx, rfl⟩
    obtain ⟨h1, h2⟩ := List.mem_filter.1 hx
    obtain ⟨_, h3, h4⟩ := List.mem_zipIdx h1
    simp only [Nat.zero_add, Nat.sub_zero] at h3 h4
    exact ⟨h3, by rw [← h4]; simpa using h2⟩
  · rintro ⟨h, hm⟩
    refine ⟨(rows[x], x), List.mem_filter.2 ⟨?_, by simpa using hm⟩, rfl⟩
    rw [List.mem_zipIdx_iff_getElem?]
    exact List.getElem?_eq_getElem h
/-- A list of entities that rises, and holds just these. -/
def Just (L : List (Int × Int)) (P : Nat → Int → Prop) : Prop := L.Nodup ∧ L.Pairwise (fun x y => x.1 ≤ y.1) ∧ ∀ e, e ∈ L ↔ ∃ (i : Nat) (g : Int), e = ((i : Int), g) ∧ P i g
theorem match_at {o : Lab} {w : World} {b : Nat} {p : Ptrs} {S : SM} (h : StoreP o w b p S) {t : Nat} (hG : GS S t) (hml : S.tabs.length = S.masks.length) (wi wo : Nat) (hwi : wi < 4294967296) (hwo : wo < 4294967296) :
    Meets Tryz.prog 16 #[ptrV b, msk wi, msk wo] w fun v w' => ∃ L', Just L' (fun i g => S.gens[i]? = some (g, true) ∧ matchP wi wo (maskP (partsOf S i)) = true) ∧ Own w' v 2 (L'.flatMap entC) ∧ Same w w' ∧ ∀ k, vblk v k → w.heap.size ≤ k := by
  have hr : ∀ n, (rowsOf S n).length ≤ 64 := fun n => by
    unfold rowsOf
    cases hT : S.tabs[n]? with
    | none => simp
    | some T =>
      have h1 := hG.wf.rows_le hT
      have h2 := hG.wf.gs
      have h3 := hG.g64
      simp only; omega
  refine (sMatch_spec h hml hr wi wo hwi hwo).mono ?_
  rintro v w' ⟨L', h1, h2, h3, h4, h5⟩
  refine ⟨L', ⟨?_, h2, fun e => ?_⟩, h3, h4, h5⟩
  · exact (List.Perm.nodup_iff h1).2 (flat_nd hG.wf (matchL_nd _ _ _) (rows_nd hG.wf) fun n e he => he)
  · rw [h1.mem_iff, List.mem_flatMap]
    constructor
    · rintro ⟨n, hn, he⟩
      obtain ⟨i, r, e1, e2, e3, _⟩ := rows_at hG.wf he
      obtain ⟨hnm, hm⟩ := matchL_mem.1 hn
      refine ⟨i, e.2, Prod.ext e1 rfl, e2, ?_⟩
      obtain ⟨n', r', hsp, _, hnm', _, _, _, _, _, hmk, _⟩ := parts_ok h hG e2
      rw [e3] at hsp; cases hsp
      rw [hmk]; exact hm
    · rintro ⟨i, g, rfl, hg, hm⟩
      obtain ⟨n', r', hsp, hn', hnm', _, _, _, _, _, hmk, _⟩ := parts_ok h hG hg
      rw [hmk] at hm
      exact ⟨n', matchL_mem.2 ⟨hnm', hm⟩, (rows_mem hG.wf).2 ⟨hg, r', hsp⟩⟩
theorem changed_at {o : Lab} {w : World} {b : Nat} {p : Ptrs} {S : SM} (h : StoreP o w b p S) {t : Nat} (hG : GS S t) (c : Nat) (frame : Int) :
    Meets Tryz.prog 30 #[ptrV b, .int .i64 c, .int .i64 frame] w fun v w' => ∃ L', Just L' (fun i g => S.gens[i]? = some (g, true) ∧ ∃ q ∈ partsOf S i, q.comp = (c : Int) ∧ frame ≤ q.tick) ∧ Own w' v 2 (L'.flatMap entC) ∧ Same w w' ∧ ∀ k, vblk v k → w.heap.size ≤ k := by
  have hr : ∀ n, (rowsOf S n).length ≤ 64 := fun n => by
    unfold rowsOf
    cases hT : S.tabs[n]? with
    | none => simp
    | some T =>
      have h1 := hG.wf.rows_le hT
      have h2 := hG.wf.gs
      have h3 := hG.g64
      simp only; omega
  refine (sChanged_spec h hr hG.wf.cols c frame).mono ?_
  rintro v w' ⟨L', h1, h2, h3, h4, h5⟩
  have hsub : ∀ n, ∀ e ∈ chgOf S c frame n, ∃ T x, S.tabs[n]? = some T ∧ c ∈ compsM S.masks n ∧ T.rows[x]? = some e ∧ x ∈ sinceL frame (T.col c) := fun n e he => by
    unfold chgOf at he
    cases hT : S.tabs[n]? with
    | none => rw [hT] at he; cases he
    | some T =>
      rw [hT] at he
      simp only at he
      split at he
      · rename_i hc
        obtain ⟨x, hx, rfl⟩ := List.mem_map.1 he
        have hxl := sinceL_lt hx
        rw [hG.wf.cols n T c hT hc] at hxl
        exact ⟨T, x, rfl, hc, by unfold rowAt; rw [List.getElem?_eq_getElem hxl]; rfl, hx⟩
      · cases he
  refine ⟨L', ⟨?_, h2, fun e => ?_⟩, h3, h4, h5⟩
  · refine (List.Perm.nodup_iff h1).2 (flat_nd hG.wf List.nodup_range (fun n => ?_) fun n e he => ?_)
    · unfold chgOf
      cases hT : S.tabs[n]? with
      | none => exact List.nodup_nil
      | some T =>
        simp only
        split
        · rename_i hc
          unfold List.Nodup
          rw [List.pairwise_map]
          refine (sinceL_nd frame (T.col c)).imp_of_mem fun {a b} ha hb hab e => ?_
          have hal := sinceL_lt ha
          have hbl := sinceL_lt hb
          rw [hG.wf.cols n T c hT hc] at hal hbl
          unfold rowAt at e
          rw [List.getElem?_eq_getElem hal, List.getElem?_eq_getElem hbl] at e
          have hnd := rows_nd hG.wf n
          unfold rowsOf at hnd
          rw [hT] at hnd
          exact hab ((List.getElem_inj hnd).1 e)
        · exact List.nodup_nil
    · obtain ⟨T, x, hT, _, hx, _⟩ := hsub n e he
      unfold rowsOf
      rw [hT]
      exact List.mem_iff_getElem?.2 ⟨x, hx⟩
  · rw [h1.mem_iff, List.mem_flatMap]
    constructor
    · rintro ⟨n, hn, he⟩
      obtain ⟨T, x, hT, hc, hx, hsx⟩ := hsub n e he
      obtain ⟨i, e1, _, e3, e4⟩ := hG.wf.rows n T x e hT hx
      refine ⟨i, e.2, Prod.ext e1 rfl, e3, partAt T x c, ?_, ?_, ?_⟩
      · rw [partsOf_eq e4 hT]; exact List.mem_map.2 ⟨c, hc, rfl⟩
      · obtain ⟨n', r', hsp, hn', _, _, _, _, _, _, _, _, hpc⟩ := parts_ok h hG e3
        rw [e4] at hsp; cases hsp
        have : S.tabs[n] = T := by
          rw [List.getElem?_eq_getElem hn'] at hT; exact Option.some.inj hT
        rw [← this]; exact hpc c hc
      · obtain ⟨hxl, ht⟩ := sinceL_mem.1 hsx
        unfold partAt
        rw [List.getElem?_eq_getElem hxl]; exact ht
    · rintro ⟨i, g, rfl, hg, q, hq, hqc, hqt⟩
      obtain ⟨n', r', hsp, hn', hnm', hcol, hpe, hce, _, _, hmk, _, hpc⟩ := parts_ok h hG hg
      rw [hpe] at hq
      obtain ⟨d, hd, rfl⟩ := List.mem_map.1 hq
      have hdc : d = c := by have := hpc d hd; omega
      subst hdc
      obtain ⟨n2, r2, T2, k1, k2, k3⟩ := hG.wf.live i g hg (fun h => h)
      rw [hsp] at k1; cases k1
      rw [List.getElem?_eq_getElem hn'] at k2; cases k2
      refine ⟨n', by simpa using hn', ?_⟩
      unfold chgOf
      rw [List.getElem?_eq_getElem hn']
      simp only
      rw [if_pos hd]
      have hrl := hcol d hd
      refine List.mem_map.2 ⟨r', sinceL_mem.2 ⟨hrl, ?_⟩, by unfold rowAt; rw [k3]; rfl⟩
      unfold partAt at hqt
      rw [List.getElem?_eq_getElem hrl] at hqt
      exact hqt
end Go.Proofs.YtlkpadfkmdgjcaaGreatDoor
end
section
set_option linter.unusedSimpArgs false
set_option linter.unusedVariables false
namespace Go.Proofs.YtlkpadfkmdgjcaaGreatDoor
open Go Go.Ev
set_option linter.unusedVariables false
set_option linter.unusedSimpArgs false
set_option maxRecDepth 100000

/-! ### A part becomes another one -/
def putS (S : SM) (n r c : Nat) (q : Part) (hn : n < S.tabs.length) : SM := { S with tabs := S.tabs.set n ⟨S.tabs[n].rows, updC S.tabs[n].col c ((S.tabs[n].col c).set r q)⟩ }
structure PutS (S S' : SM) (i c : Nat) (q : Part) : Prop where
  gens : S'.gens = S.gens
  cs : S'.cs = S.cs
  masks : S'.masks = S.masks
  tabs : S'.tabs.length = S.tabs.length
  free : S'.free = S.free
  parts : partsOf S' i = (partsOf S i).map fun x => if x.comp = (c : Int) then q else x
  others : ∀ j gj, j ≠ i → S.gens[j]? = some (gj, true) → partsOf S' j = partsOf S j
theorem putS_tabs {S : SM} {n r c : Nat} {q : Part} (hn : n < S.tabs.length) (k : Nat) : (putS S n r c q hn).tabs[k]? = if k = n then some ⟨S.tabs[n].rows, updC S.tabs[n].col c ((S.tabs[n].col c).set r q)⟩ else S.tabs[k]? := by
  unfold putS
  rw [List.getElem?_set]
  by_cases h : n = k
  · subst h; rw [if_pos rfl, if_pos hn, if_pos rfl]
  · rw [if_neg h, if_neg (fun e => h e.symm)]
theorem GS.put {S : SM} {t : Nat} (h : GS S t) {i : Nat} {g : Int} (hg : S.gens[i]? = some (g, true)) {n r : Nat} (hs : S.spots[i]? = some (n, r)) (hn : n < S.tabs.length) {c : Nat} (hc : c ∈ compsM S.masks n) (hr : r < (S.tabs[n].col c).length)
    (hpc : ∀ d ∈ compsM S.masks n, (partAt S.tabs[n] r d).comp = (d : Int)) (q : Part) :
    GS (putS S n r c q hn) t ∧ PutS S (putS S n r c q hn) i c q := by
  have hTn : S.tabs[n]? = some S.tabs[n] := List.getElem?_eq_getElem hn
  have hT' := putS_tabs (r := r) (c := c) (q := q) hn
  have hsp : (putS S n r c q hn).spots = S.spots := rfl
  have hcol : ∀ d, ((updC S.tabs[n].col c ((S.tabs[n].col c).set r q)) d).length = (S.tabs[n].col d).length := fun d => by
    by_cases hd : d = c
    · subst hd; rw [updC_same, List.length_set]
    · rw [updC_ne _ hd]
  refine ⟨⟨⟨h.wf.gs, fun j gj hgj _ => ?_, fun n' T r' e hT hre => ?_, fun n' T d hT hd => ?_⟩, h.fr, h.gen, h.ml, h.g64⟩, ⟨rfl, rfl, rfl, by simp [putS], rfl, ?_, fun j gj hj hgj => ?_⟩⟩
  · obtain ⟨n', r', T', h1, h2, h3⟩ := h.wf.live j gj hgj (fun h => h)
    by_cases hnn : n' = n
    · subst hnn
      rw [hTn] at h2; cases h2
      exact ⟨n', r', _, h1, (hT' n').trans (if_pos rfl), h3⟩
    · exact ⟨n', r', T', h1, by rw [hT', if_neg hnn]; exact h2, h3⟩
  · rw [hT'] at hT
    by_cases hnn : n' = n
    · subst hnn
      rw [if_pos rfl] at hT
      cases hT
      exact h.wf.rows n' _ r' e hTn hre
    · rw [if_neg hnn] at hT
      exact h.wf.rows n' T r' e hT hre
  · rw [hT'] at hT
    by_cases hnn : n' = n
    · subst hnn
      rw [if_pos rfl] at hT
      cases hT
      show (updC _ _ _ d).length = _
      rw [hcol d]
      exact h.wf.cols n' _ d hTn hd
    · rw [if_neg hnn] at hT
      exact h.wf.cols n' T d hT hd
  · rw [partsOf_eq hs hTn, partsOf_eq (S := putS S n r c q hn) hs (by rw [hT', if_pos rfl]), List.map_map]
    refine List.map_congr_left fun d hd => ?_
    have e := hpc d hd
    show ((updC S.tabs[n].col c ((S.tabs[n].col c).set r q) d)[r]?).getD _ = if (partAt S.tabs[n] r d).comp = (c : Int) then q else partAt S.tabs[n] r d
    by_cases hdc : d = c
    · subst hdc
      rw [if_pos e, updC_same, List.getElem?_set, if_pos rfl, if_pos hr]; rfl
    · rw [if_neg (by omega), updC_ne _ hdc]; rfl
  · obtain ⟨n', r', T', h1, h2, h3⟩ := h.wf.live j gj hgj (fun h => h)
    by_cases hnn : n' = n
    · subst hnn
      rw [hTn] at h2; cases h2
      have hrr : r' ≠ r := fun e => by
        subst e
        obtain ⟨n2, r2, T2, k1, k2, k3⟩ := h.wf.live i g hg (fun h => h)
        rw [hs] at k1; cases k1
        rw [hTn] at k2; cases k2
        rw [h3] at k3
        simp at k3; omega
      rw [partsOf_eq h1 hTn, partsOf_eq (S := putS S n' r c q hn) h1 (by rw [hT', if_pos rfl])]
      refine List.map_congr_left fun d hd => ?_
      show ((updC S.tabs[n'].col c ((S.tabs[n'].col c).set r q) d)[r']?).getD _ = ((S.tabs[n'].col d)[r']?).getD _
      by_cases hdc : d = c
      · subst hdc
        rw [updC_same, List.getElem?_set_ne (fun e => hrr e.symm)]
      · rw [updC_ne _ hdc]
    · rw [partsOf_eq h1 h2, partsOf_eq (S := putS S n r c q hn) h1 (by rw [hT', if_neg hnn]; exact h2)]; rfl
/-- A part among an entity's. -/
theorem part_at {o : Lab} {w : World} {b : Nat} {p : Ptrs} {S : SM} (h : StoreP o w b p S) {t : Nat} (hG : GS S t) {i : Nat} {g : Int} (hg : S.gens[i]? = some (g, true)) {c : Nat} {q : Part} (hq : q ∈ partsOf S i) (hqc : q.comp = (c : Int)) :
    ∃ n r, S.spots[i]? = some (n, r) ∧ ∃ hn : n < S.tabs.length, ∃ hcm : c ∈ compsM S.masks n, ∃ hr : r < (S.tabs[n].col c).length, (S.tabs[n].col c)[r] = q ∧ ∀ d ∈ compsM S.masks n, (partAt S.tabs[n] r d).comp = (d : Int) := by
  obtain ⟨n, r, hsp, hn, hnm, hcol, hpe, hce, hmap, hfit, hmk, hmlt, hpc⟩ := parts_ok h hG hg
  rw [hpe] at hq
  obtain ⟨d, hd, rfl⟩ := List.mem_map.1 hq
  have hdc : d = c := by have := hpc d hd; omega
  subst hdc
  refine ⟨n, r, hsp, hn, hd, hcol d hd, ?_, hpc⟩
  simp only [partAt, List.getElem?_eq_getElem (hcol d hd), Option.getD_some]
theorem get_at {o : Lab} {w : World} {b : Nat} {p : Ptrs} {S : SM} (h : StoreP o w b p S) {t : Nat} (hG : GS S t) {i : Nat} {g : Int} (hg : S.gens[i]? = some (g, true)) {c : Nat} {q : Part} (hq : q ∈ partsOf S i) (hqc : q.comp = (c : Int)) :
    Meets Tryz.prog 28 #[ptrV b, entV i g, .int .i64 c] w fun v w' => v = .tuple #[.agg q.cells.toArray, .nilIface] ∧ Same w w' := by
  obtain ⟨n, r, hsp, hn, hcm, hr, rfl, _⟩ := part_at h hG hg hq hqc
  exact sGet_spec h hg hsp hn hcm hr
theorem set_at {o : Lab} {w : World} {b : Nat} {p : Ptrs} {S : SM} (h : StoreP o w b p S) {t : Nat} (hG : GS S t) {i : Nat} {g : Int} (hg : S.gens[i]? = some (g, true)) {c : Nat} {q : Part} (hq : q ∈ partsOf S i) (hqc : q.comp = (c : Int)) {cell : Nat} (hcell : cell < wdF S.cs c) (value frame : Int) :
    Meets Tryz.prog 32 #[ptrV b, entV i g, .int .i64 c, .int .i64 cell, .int .i64 value, .int .i64 frame] w fun v w' => v = .tuple #[.agg q.cells.toArray, .nilIface] ∧ ∃ S', GS S' t ∧ PutS S S' i c (q.setCell cell value frame) ∧ Turned o w b S' w' := by
  obtain ⟨n, r, hsp, hn, hcm, hr, rfl, hpc⟩ := part_at h hG hg hq hqc
  refine (sSet_spec h hg hsp hn hcm hr hcell value frame).mono ?_
  rintro v w' ⟨rfl, ht⟩
  obtain ⟨k1, k2⟩ := hG.put hg hsp hn hcm hr hpc (((S.tabs[n].col c)[r]).setCell cell value frame)
  exact ⟨rfl, _, k1, k2, ht⟩
end Go.Proofs.YtlkpadfkmdgjcaaGreatDoor
end
section
set_option linter.unusedSimpArgs false
set_option linter.unusedVariables false
namespace Go.Proofs.YtlkpadfkmdgjcaaGreatDoor
open Go Go.Ev
set_option linter.unusedVariables false
set_option maxRecDepth 100000

/-! pasodoble/schema.Check -/
def f67_3 (x1 : Value) (x3 : Value) (x18 : Value) (x19 : Value) (J5 : Value → World → Prop) (Q : Value → World → Prop) (w : World) : Prop :=
  kint .i64 .add x19 (.int .i64 1) fun v24 =>
  J5 v24 w

def f67_2 (x1 : Value) (x3 : Value) (x18 : Value) (x19 : Value) (J5 : Value → World → Prop) (Q : Value → World → Prop) (w : World) : Prop :=
  kldN 2 x1 w fun v21 =>
  kcall Tryz.prog 129 #[x3, v21, x19] w fun v22 w23 =>
  f67_3 x1 x3 x18 x19 J5 Q w23

def f67_8 (x1 : Value) (x3 : Value) (x37 : Value) (x38 : Value) (J12 : Value → World → Prop) (Q : Value → World → Prop) (w : World) : Prop :=
  kint .i64 .add x38 (.int .i64 1) fun v43 =>
  J12 v43 w

def f67_7 (x1 : Value) (x3 : Value) (x37 : Value) (x38 : Value) (J12 : Value → World → Prop) (Q : Value → World → Prop) (w : World) : Prop :=
  kldN 2 x1 w fun v40 =>
  kcall Tryz.prog 130 #[x3, v40, x38] w fun v41 w42 =>
  f67_8 x1 x3 x37 x38 J12 Q w42

def f67_9 (x3 : Value) (Q : Value → World → Prop) (w : World) : Prop :=
  kN x3 <|
  kfld 0 x3 fun v44 =>
  kld v44 w fun v45 =>
  kcall Tryz.prog 131 #[v45] w fun v46 w47 =>
  Q v46 w47

def f67_6 (x38 : Value) (x1 : Value) (x3 : Value) (x37 : Value) (J12 : Value → World → Prop) (Q : Value → World → Prop) (w : World) : Prop :=
  kint .i64 .lss x38 x37 fun v39 =>
  kB v39 fun b48 => kIf b48
  (f67_7 x1 x3 x37 x38 J12 Q w)
  (f67_9 x3 Q w)

def f67_5 (x1 : Value) (x3 : Value) (Q : Value → World → Prop) (w : World) : Prop :=
  kfld 1 x1 fun v35 =>
  kld v35 w fun v36 =>
  klen v36 fun v37 =>
  kL fun (I : Value → World → Prop) (μ : Value → World → Nat) => I (.int .i64 0) w ∧ ∀ (x38 : Value) (w1 : World), I x38 w1 →
  f67_6 x38 x1 x3 v37 (fun y38 w2 => I y38 w2 ∧ μ y38 w2 < μ x38 w1) Q w1

def f67_4 (x1 : Value) (x3 : Value) (Q : Value → World → Prop) (w : World) : Prop :=
  kfld 1 x1 fun v25 =>
  kld v25 w fun v26 =>
  klen v26 fun v27 =>
  kint .i64 .gtr v27 (.int .i64 8) fun v29 =>
  kB v29 fun b49 => kIf b49
  (kld (.pointer (some ⟨6, 0, none⟩)) w fun v30 =>
  kbldS [(.string ⟨#[]⟩)] 1 [(0, 1, (.string ⟨#[114, 101, 115, 111, 117, 114, 99, 101, 115]⟩))] 9 w fun v31 w32 =>
  kcall Tryz.prog 128 #[x3, v30, v31] w32 fun v33 w34 =>
  f67_5 x1 x3 Q w34)
  (f67_5 x1 x3 Q w)

def f67_1 (x19 : Value) (x1 : Value) (x3 : Value) (x18 : Value) (J5 : Value → World → Prop) (Q : Value → World → Prop) (w : World) : Prop :=
  kint .i64 .lss x19 x18 fun v20 =>
  kB v20 fun b50 => kIf b50
  (f67_2 x1 x3 x18 x19 J5 Q w)
  (f67_4 x1 x3 Q w)

def f67_0 (x1 : Value) (x3 : Value) (Q : Value → World → Prop) (w : World) : Prop :=
  kfld 0 x1 fun v16 =>
  kld v16 w fun v17 =>
  klen v17 fun v18 =>
  kL fun (I : Value → World → Prop) (μ : Value → World → Nat) => I (.int .i64 0) w ∧ ∀ (x19 : Value) (w1 : World), I x19 w1 →
  f67_1 x19 x1 x3 v18 (fun y19 w2 => I y19 w2 ∧ μ y19 w2 < μ x19 w1) Q w1

def f67 (x0 : Value) (Q : Value → World → Prop) (w : World) : Prop :=
  knew (Value.cells x0) 34 w fun v1 w2 =>
  kbld [(.slice none 0 0)] [] fun v3 =>
  knew (Value.cells v3) 213 w2 fun v4 w5 =>
  kfld 0 v1 fun v6 =>
  kld v6 w5 fun v7 =>
  klen v7 fun v8 =>
  kint .i64 .gtr v8 (.int .i64 16) fun v10 =>
  kB v10 fun b51 => kIf b51
  (kld (.pointer (some ⟨6, 0, none⟩)) w5 fun v11 =>
  kbldS [(.string ⟨#[]⟩)] 1 [(0, 1, (.string ⟨#[99, 111, 109, 112, 111, 110, 101, 110, 116, 115]⟩))] 9 w5 fun v12 w13 =>
  kcall Tryz.prog 128 #[v4, v11, v12] w13 fun v14 w15 =>
  f67_0 v1 v4 Q w15)
  (f67_0 v1 v4 Q w5)

theorem f67_eq (x0 : Value) (Q : Value → World → Prop) (w : World) : f67 x0 Q w = fnVC Tryz.prog Tryz.f67 [(5, [19]), (12, [38])] (Tryz.f67.body.get rfl) [x0] w Q := by kernel_rfl
theorem f67_ok {x0 : Value} {Q : Value → World → Prop} {w : World} (h : f67 x0 Q w) : Meets Tryz.prog 67 #[x0] w Q :=
  sound (c := (Tryz.f67.body.get rfl)) [(5, [19]), (12, [38])] Tryz.func67 rfl rfl (args := [x0]) rfl (Eq.mp (f67_eq x0 Q w) h)

/-! (*pasodoble/schema.flaws).component -/
def f129_1 (x0 : Value) (x6 : Value) (x9 : Value) (x35 : Value) (Q : Value → World → Prop) (w : World) : Prop :=
  kB x35 fun b47 => kIf b47
  (kld (.pointer (some ⟨5, 0, none⟩)) w fun v32 =>
  kbldS [(.string ⟨#[]⟩)] 3 [(0, 1, (.string ⟨#[99, 111, 109, 112, 111, 110, 101, 110, 116, 115]⟩)), (1, 1, x9), (2, 1, (.string ⟨#[119, 105, 100, 116, 104]⟩))] 9 w fun v33 w34 =>
  kcall Tryz.prog 128 #[x0, v32, v33] w34 fun v35 w36 =>
  Q (.tuple #[]) w36)
  (kldN 7 x6 w fun v37 =>
  kcall Tryz.prog 171 #[v37] w fun v38 w39 =>
  kun .not (some .bool) v38 fun v40 =>
  kB v40 fun b46 => kIf b46
  (kld (.pointer (some ⟨5, 0, none⟩)) w39 fun v41 =>
  kbldS [(.string ⟨#[]⟩)] 3 [(0, 1, (.string ⟨#[99, 111, 109, 112, 111, 110, 101, 110, 116, 115]⟩)), (1, 1, x9), (2, 1, (.string ⟨#[100, 101, 102, 97, 117, 108, 116]⟩))] 9 w39 fun v42 w43 =>
  kcall Tryz.prog 128 #[x0, v41, v42] w43 fun v44 w45 =>
  Q (.tuple #[]) w45)
  (Q (.tuple #[]) w39))

def f129_0 (x0 : Value) (x2 : Value) (x6 : Value) (Q : Value → World → Prop) (w : World) : Prop :=
  kcall Tryz.prog 170 #[x2] w fun v23 w24 =>
  kfld 1 x6 fun v25 =>
  kld v25 w24 fun v26 =>
  kint .i64 .lss v26 (.int .i64 1) fun v27 =>
  kB v27 fun b28 => kIf (!b28)
  (kfld 1 x6 fun v29 =>
  kld v29 w24 fun v30 =>
  kint .i64 .gtr v30 (.int .i64 4) fun v31 =>
  f129_1 x0 x6 v23 v31 Q w24)
  (f129_1 x0 x6 v23 (.bool true) Q w24)

def f129 (x0 : Value) (x1 : Value) (x2 : Value) (Q : Value → World → Prop) (w : World) : Prop :=
  knew (Value.cells x1) 34 w fun v1 w2 =>
  kfld 0 v1 fun v3 =>
  kld v3 w2 fun v4 =>
  kix (some (.slice 132)) (some 7) v4 x2 fun v5 =>
  kldN 7 v5 w2 fun v6 =>
  knew #[(.string ⟨#[]⟩), (.int .i64 0), (.bool false), (.int .i64 0), (.int .i64 0), (.int .i64 0), (.int .i64 0)] 132 w2 fun v7 w8 =>
  kst 7 v7 v6 w8 fun w9 =>
  kldN 2 v1 w9 fun v10 =>
  kfld 0 v7 fun v11 =>
  kld v11 w9 fun v12 =>
  kcall Tryz.prog 168 #[v10, v12] w9 fun v13 w14 =>
  kext v13 0 fun v15 =>
  kext v13 1 fun v16 =>
  kfld 0 v7 fun v17 =>
  kld v17 w14 fun v18 =>
  kB v16 fun b19 => kIf b19
  (kint .i64 .lss v15 x2 fun v20 =>
  kcall Tryz.prog 169 #[x0, v18, v20, (.string ⟨#[99, 111, 109, 112, 111, 110, 101, 110, 116, 115]⟩), x2] w14 fun v21 w22 =>
  f129_0 x0 x2 v7 Q w22)
  (kcall Tryz.prog 169 #[x0, v18, (.bool false), (.string ⟨#[99, 111, 109, 112, 111, 110, 101, 110, 116, 115]⟩), x2] w14 fun v48 w49 =>
  f129_0 x0 x2 v7 Q w49)

theorem f129_eq (x0 : Value) (x1 : Value) (x2 : Value) (Q : Value → World → Prop) (w : World) : f129 x0 x1 x2 Q w = fnVC Tryz.prog Tryz.f129 [] (Tryz.f129.body.get rfl) [x0, x1, x2] w Q := by kernel_rfl
theorem f129_ok {x0 : Value} {x1 : Value} {x2 : Value} {Q : Value → World → Prop} {w : World} (h : f129 x0 x1 x2 Q w) : Meets Tryz.prog 129 #[x0, x1, x2] w Q :=
  sound (c := (Tryz.f129.body.get rfl)) [] Tryz.func129 rfl rfl (args := [x0, x1, x2]) rfl (Eq.mp (f129_eq x0 x1 x2 Q w) h)

/-! (*pasodoble/schema.flaws).named -/
def f169 (x0 : Value) (x1 : Value) (x2 : Value) (x3 : Value) (x4 : Value) (Q : Value → World → Prop) (w : World) : Prop :=
  kcall Tryz.prog 170 #[x4] w fun v1 w2 =>
  kcall Tryz.prog 201 #[x1] w2 fun v3 w4 =>
  kun .not (some .bool) v3 fun v5 =>
  kB v5 fun b17 => kIf b17
  (kld (.pointer (some ⟨10, 0, none⟩)) w4 fun v6 =>
  kbldS [(.string ⟨#[]⟩)] 3 [(0, 1, x3), (1, 1, v1), (2, 1, (.string ⟨#[110, 97, 109, 101]⟩))] 9 w4 fun v7 w8 =>
  kcall Tryz.prog 128 #[x0, v6, v7] w8 fun v9 w10 =>
  Q (.tuple #[]) w10)
  (kB x2 fun b16 => kIf b16
  (kld (.pointer (some ⟨0, 0, none⟩)) w4 fun v11 =>
  kbldS [(.string ⟨#[]⟩)] 3 [(0, 1, x3), (1, 1, v1), (2, 1, (.string ⟨#[110, 97, 109, 101]⟩))] 9 w4 fun v12 w13 =>
  kcall Tryz.prog 128 #[x0, v11, v12] w13 fun v14 w15 =>
  Q (.tuple #[]) w15)
  (Q (.tuple #[]) w4))

theorem f169_eq (x0 : Value) (x1 : Value) (x2 : Value) (x3 : Value) (x4 : Value) (Q : Value → World → Prop) (w : World) : f169 x0 x1 x2 x3 x4 Q w = fnVC Tryz.prog Tryz.f169 [] (Tryz.f169.body.get rfl) [x0, x1, x2, x3, x4] w Q := by kernel_rfl
theorem f169_ok {x0 : Value} {x1 : Value} {x2 : Value} {x3 : Value} {x4 : Value} {Q : Value → World → Prop} {w : World} (h : f169 x0 x1 x2 x3 x4 Q w) : Meets Tryz.prog 169 #[x0, x1, x2, x3, x4] w Q :=
  sound (c := (Tryz.f169.body.get rfl)) [] Tryz.func169 rfl rfl (args := [x0, x1, x2, x3, x4]) rfl (Eq.mp (f169_eq x0 x1 x2 x3 x4 Q w) h)

/-! pasodoble/schema.Find -/
def f168 (x0 : Value) (x1 : Value) (Q : Value → World → Prop) (w : World) : Prop :=
  knew (Value.cells x0) 34 w fun v1 w2 =>
  knew (Value.cells x1) 9 w2 fun v3 w4 =>
  kfld 0 v1 fun v5 =>
  kld v5 w4 fun v6 =>
  kcall Tryz.prog 199 #[v6, (.func (.func 200) #[] #[v3])] w4 fun v7 w8 =>
  kmm .i64 true v7 (.int .i64 0) fun v9 =>
  kint .i64 .geq v7 (.int .i64 0) fun v11 =>
  Q (.tuple #[v9, v11]) w8

theorem f168_eq (x0 : Value) (x1 : Value) (Q : Value → World → Prop) (w : World) : f168 x0 x1 Q w = fnVC Tryz.prog Tryz.f168 [] (Tryz.f168.body.get rfl) [x0, x1] w Q := by kernel_rfl
theorem f168_ok {x0 : Value} {x1 : Value} {Q : Value → World → Prop} {w : World} (h : f168 x0 x1 Q w) : Meets Tryz.prog 168 #[x0, x1] w Q :=
  sound (c := (Tryz.f168.body.get rfl)) [] Tryz.func168 rfl rfl (args := [x0, x1]) rfl (Eq.mp (f168_eq x0 x1 Q w) h)

/-! pasodoble/schema.Find$1 -/
def f200 (x0 : Value) (x1 : Value) (Q : Value → World → Prop) (w : World) : Prop :=
  knew (Value.cells x0) 132 w fun v1 w2 =>
  kfld 0 v1 fun v3 =>
  kld v3 w2 fun v4 =>
  kld x1 w2 fun v5 =>
  kstr .eql v4 v5 fun v6 =>
  Q v6 w2

theorem f200_eq (x0 : Value) (x1 : Value) (Q : Value → World → Prop) (w : World) : f200 x0 x1 Q w = fnVC Tryz.prog Tryz.f200 [] (Tryz.f200.body.get rfl) [x0, x1] w Q := by kernel_rfl
theorem f200_ok {x0 : Value} {x1 : Value} {Q : Value → World → Prop} {w : World} (h : f200 x0 x1 Q w) : Meets Tryz.prog 200 #[x0, x1] w Q :=
  sound (c := (Tryz.f200.body.get rfl)) [] Tryz.func200 rfl rfl (args := [x0, x1]) rfl (Eq.mp (f200_eq x0 x1 Q w) h)

/-! pasodoble/schema.IsName -/
def f201_3 (x0 : Value) (x6 : Value) (x7 : Value) (x8 : Value) (J2 : Value → World → Prop) (Q : Value → World → Prop) (w : World) : Prop :=
  kint .i64 .add x8 (.int .i64 1) fun v11 =>
  J2 v11 w

def f201_2 (x0 : Value) (x6 : Value) (x7 : Value) (x8 : Value) (x17 : Value) (J2 : Value → World → Prop) (Q : Value → World → Prop) (w : World) : Prop :=
  kB x17 fun b12 => kIf b12
  (Q (.bool false) w)
  (f201_3 x0 x6 x7 x8 J2 Q w)

def f201_1 (x0 : Value) (x6 : Value) (x7 : Value) (x8 : Value) (J2 : Value → World → Prop) (Q : Value → World → Prop) (w : World) : Prop :=
  kix (some (.slice 5)) (some 1) x6 x8 fun v6 =>
  kld v6 w fun v7 =>
  kint .u8 .lss v7 (.int .u8 97) fun v8 =>
  kB v8 fun b9 => kIf (!b9)
  (kint .u8 .gtr v7 (.int .u8 122) fun v10 =>
  f201_2 x0 x6 x7 x8 v10 J2 Q w)
  (f201_2 x0 x6 x7 x8 (.bool true) J2 Q w)

def f201_4 (x0 : Value) (Q : Value → World → Prop) (w : World) : Prop :=
  klenStr x0 fun v13 =>
  kint .i64 .geq v13 (.int .i64 1) fun v15 =>
  kB v15 fun b16 => kIf b16
  (klenStr x0 fun v17 =>
  kint .i64 .leq v17 (.int .i64 8) fun v19 =>
  Q v19 w)
  (Q (.bool false) w)

def f201_0 (x8 : Value) (x0 : Value) (x6 : Value) (x7 : Value) (J2 : Value → World → Prop) (Q : Value → World → Prop) (w : World) : Prop :=
  kint .i64 .lss x8 x7 fun v5 =>
  kB v5 fun b20 => kIf b20
  (f201_1 x0 x6 x7 x8 J2 Q w)
  (f201_4 x0 Q w)

def f201 (x0 : Value) (Q : Value → World → Prop) (w : World) : Prop :=
  ksem Tryz.prog (convert 9 288 x0) w fun v1 w2 =>
  klen v1 fun v3 =>
  kL fun (I : Value → World → Prop) (μ : Value → World → Nat) => I (.int .i64 0) w2 ∧ ∀ (x8 : Value) (w1 : World), I x8 w1 →
  f201_0 x8 x0 v1 v3 (fun y8 w2 => I y8 w2 ∧ μ y8 w2 < μ x8 w1) Q w1

theorem f201_eq (x0 : Value) (Q : Value → World → Prop) (w : World) : f201 x0 Q w = fnVC Tryz.prog Tryz.f201 [(2, [8])] (Tryz.f201.body.get rfl) [x0] w Q := by kernel_rfl
theorem f201_ok {x0 : Value} {Q : Value → World → Prop} {w : World} (h : f201 x0 Q w) : Meets Tryz.prog 201 #[x0] w Q :=
  sound (c := (Tryz.f201.body.get rfl)) [(2, [8])] Tryz.func201 rfl rfl (args := [x0]) rfl (Eq.mp (f201_eq x0 Q w) h)

/-! pasodoble/schema.isClean -/
def f171_2 (x8 : Value) (x9 : Value) (x10 : Value) (J2 : Value → World → Prop) (Q : Value → World → Prop) (w : World) : Prop :=
  kint .i64 .add x10 (.int .i64 1) fun v13 =>
  J2 v13 w

def f171_1 (x8 : Value) (x9 : Value) (x10 : Value) (J2 : Value → World → Prop) (Q : Value → World → Prop) (w : World) : Prop :=
  kix (some (.slice 3)) (some 1) x8 x10 fun v10 =>
  kld v10 w fun v11 =>
  kint .i64 .neq v11 (.int .i64 0) fun v12 =>
  kB v12 fun b14 => kIf b14
  (Q (.bool false) w)
  (f171_2 x8 x9 x10 J2 Q w)

def f171_3 (Q : Value → World → Prop) (w : World) : Prop :=
  Q (.bool true) w

def f171_0 (x10 : Value) (x8 : Value) (x9 : Value) (J2 : Value → World → Prop) (Q : Value → World → Prop) (w : World) : Prop :=
  kint .i64 .lss x10 x9 fun v9 =>
  kB v9 fun b15 => kIf b15
  (f171_1 x8 x9 x10 J2 Q w)
  (f171_3 Q w)

def f171 (x0 : Value) (Q : Value → World → Prop) (w : World) : Prop :=
  knew (Value.cells x0) 132 w fun v1 w2 =>
  kfld 3 v1 fun v3 =>
  kfld 1 v1 fun v4 =>
  kld v4 w2 fun v5 =>
  ksl (some (.array 4 3)) (some 1) v3 (some v5) none fun v6 =>
  klen v6 fun v7 =>
  kL fun (I : Value → World → Prop) (μ : Value → World → Nat) => I (.int .i64 0) w2 ∧ ∀ (x10 : Value) (w1 : World), I x10 w1 →
  f171_0 x10 v6 v7 (fun y10 w2 => I y10 w2 ∧ μ y10 w2 < μ x10 w1) Q w1

theorem f171_eq (x0 : Value) (Q : Value → World → Prop) (w : World) : f171 x0 Q w = fnVC Tryz.prog Tryz.f171 [(2, [10])] (Tryz.f171.body.get rfl) [x0] w Q := by kernel_rfl
theorem f171_ok {x0 : Value} {Q : Value → World → Prop} {w : World} (h : f171 x0 Q w) : Meets Tryz.prog 171 #[x0] w Q :=
  sound (c := (Tryz.f171.body.get rfl)) [(2, [10])] Tryz.func171 rfl rfl (args := [x0]) rfl (Eq.mp (f171_eq x0 Q w) h)

/-! slices.IndexFunc[[]pasodoble/api.Component,pasodoble/api.Component] -/
def f199_2 (x0 : Value) (x1 : Value) (x7 : Value) (x8 : Value) (J2 : Value → World → Prop) (Q : Value → World → Prop) (w : World) : Prop :=
  kint .i64 .add x8 (.int .i64 1) fun v8 =>
  J2 v8 w

def f199_1 (x0 : Value) (x1 : Value) (x7 : Value) (x8 : Value) (J2 : Value → World → Prop) (Q : Value → World → Prop) (w : World) : Prop :=
  kix (some (.slice 132)) (some 7) x0 x8 fun v4 =>
  kldN 7 v4 w fun v5 =>
  kcallV Tryz.prog x1 [v5] w fun v6 w7 =>
  kB v6 fun b9 => kIf b9
  (Q x8 w7)
  (f199_2 x0 x1 x7 x8 J2 Q w7)

def f199_3 (Q : Value → World → Prop) (w : World) : Prop :=
  Q (.int .i64 (-1)) w

def f199_0 (x8 : Value) (x0 : Value) (x1 : Value) (x7 : Value) (J2 : Value → World → Prop) (Q : Value → World → Prop) (w : World) : Prop :=
  kint .i64 .lss x8 x7 fun v3 =>
  kB v3 fun b10 => kIf b10
  (f199_1 x0 x1 x7 x8 J2 Q w)
  (f199_3 Q w)

def f199 (x0 : Value) (x1 : Value) (Q : Value → World → Prop) (w : World) : Prop :=
  klen x0 fun v1 =>
  kL fun (I : Value → World → Prop) (μ : Value → World → Nat) => I (.int .i64 0) w ∧ ∀ (x8 : Value) (w1 : World), I x8 w1 →
  f199_0 x8 x0 x1 v1 (fun y8 w2 => I y8 w2 ∧ μ y8 w2 < μ x8 w1) Q w1

theorem f199_eq (x0 : Value) (x1 : Value) (Q : Value → World → Prop) (w : World) : f199 x0 x1 Q w = fnVC Tryz.prog Tryz.f199 [(2, [8])] (Tryz.f199.body.get rfl) [x0, x1] w Q := by kernel_rfl
theorem f199_ok {x0 : Value} {x1 : Value} {Q : Value → World → Prop} {w : World} (h : f199 x0 x1 Q w) : Meets Tryz.prog 199 #[x0, x1] w Q :=
  sound (c := (Tryz.f199.body.get rfl)) [(2, [8])] Tryz.func199 rfl rfl (args := [x0, x1]) rfl (Eq.mp (f199_eq x0 x1 Q w) h)

/-! strconv.Itoa -/
def f170 (x0 : Value) (Q : Value → World → Prop) (w : World) : Prop :=
  kcall Tryz.prog 202 #[x0] w fun v1 w2 =>
  Q v1 w2

theorem f170_eq (x0 : Value) (Q : Value → World → Prop) (w : World) : f170 x0 Q w = fnVC Tryz.prog Tryz.f170 [] (Tryz.f170.body.get rfl) [x0] w Q := by kernel_rfl
theorem f170_ok {x0 : Value} {Q : Value → World → Prop} {w : World} (h : f170 x0 Q w) : Meets Tryz.prog 170 #[x0] w Q :=
  sound (c := (Tryz.f170.body.get rfl)) [] Tryz.func170 rfl rfl (args := [x0]) rfl (Eq.mp (f170_eq x0 Q w) h)

/-! internal/strconv.Itoa -/
def f202 (x0 : Value) (Q : Value → World → Prop) (w : World) : Prop :=
  kcall Tryz.prog 229 #[x0, (.int .i64 10)] w fun v1 w2 =>
  Q v1 w2

theorem f202_eq (x0 : Value) (Q : Value → World → Prop) (w : World) : f202 x0 Q w = fnVC Tryz.prog Tryz.f202 [] (Tryz.f202.body.get rfl) [x0] w Q := by kernel_rfl
theorem f202_ok {x0 : Value} {Q : Value → World → Prop} {w : World} (h : f202 x0 Q w) : Meets Tryz.prog 202 #[x0] w Q :=
  sound (c := (Tryz.f202.body.get rfl)) [] Tryz.func202 rfl rfl (args := [x0]) rfl (Eq.mp (f202_eq x0 Q w) h)

/-! internal/strconv.FormatInt -/
def f229_3 (x5 : Value) (x7 : Value) (Q : Value → World → Prop) (w : World) : Prop :=
  kint .i64 .add (.int .i64 1) x7 fun v25 =>
  ksl (some (.array 24 5)) (some 1) x5 (some (.int .i64 1)) (some v25) fun v26 =>
  ksem Tryz.prog (convert 288 9 v26) w fun v27 w28 =>
  Q v27 w28

def f229_2 (x0 : Value) (x5 : Value) (x6 : Value) (Q : Value → World → Prop) (w : World) : Prop :=
  kcall Tryz.prog 240 #[x6] w fun v12 w13 =>
  kint .i64 .add (.int .i64 1) v12 fun v14 =>
  ksl (some (.array 24 5)) (some 1) x5 (some (.int .i64 1)) (some v14) fun v15 =>
  kcall Tryz.prog 241 #[v15, x6] w13 fun v16 w17 =>
  kint .i64 .lss x0 (.int .i64 0) fun v18 =>
  kB v18 fun b29 => kIf b29
  (kix (some (.array 24 5)) (some 1) x5 (.int .i64 0) fun v19 =>
  kst 1 v19 (.int .u8 45) w17 fun w20 =>
  kint .i64 .add (.int .i64 1) v12 fun v21 =>
  ksl (some (.array 24 5)) (some 1) x5 none (some v21) fun v22 =>
  ksem Tryz.prog (convert 288 9 v22) w20 fun v23 w24 =>
  Q v23 w24)
  (f229_3 x5 v12 Q w17)

def f229_1 (x0 : Value) (Q : Value → World → Prop) (w : World) : Prop :=
  knew #[(.int .u8 0), (.int .u8 0), (.int .u8 0), (.int .u8 0), (.int .u8 0), (.int .u8 0), (.int .u8 0), (.int .u8 0), (.int .u8 0), (.int .u8 0), (.int .u8 0), (.int .u8 0), (.int .u8 0), (.int .u8 0), (.int .u8 0), (.int .u8 0), (.int .u8 0), (.int .u8 0), (.int .u8 0), (.int .u8 0), (.int .u8 0), (.int .u8 0), (.int .u8 0), (.int .u8 0)] 339 w fun v7 w8 =>
  kcnv .u64 x0 fun v9 =>
  kint .i64 .lss x0 (.int .i64 0) fun v10 =>
  kB v10 fun b30 => kIf b30
  (kun .neg (some (.int .u64)) v9 fun v11 =>
  f229_2 x0 v7 v11 Q w8)
  (f229_2 x0 v7 v9 Q w8)

def f229_0 (x0 : Value) (x17 : Value) (Q : Value → World → Prop) (w : World) : Prop :=
  kB x17 fun b31 => kIf b31
  (kcall Tryz.prog 239 #[x0] w fun v5 w6 =>
  Q v5 w6)
  (f229_1 x0 Q w)

def f229_4 (x0 : Value) (x1 : Value) (Q : Value → World → Prop) (w : World) : Prop :=
  kcnv .u64 x0 fun v32 =>
  kint .i64 .lss x0 (.int .i64 0) fun v33 =>
  kcall Tryz.prog 242 #[(.slice none 0 0), v32, x1, v33, (.bool false)] w fun v34 w35 =>
  kext v34 0 fun v36 =>
  kext v34 1 fun v37 =>
  Q v37 w35

def f229 (x0 : Value) (x1 : Value) (Q : Value → World → Prop) (w : World) : Prop :=
  kint .i64 .eql x1 (.int .i64 10) fun v1 =>
  kB v1 fun b38 => kIf b38
  (kint .i64 .leq (.int .i64 0) x0 fun v2 =>
  kB v2 fun b3 => kIf b3
  (kint .i64 .lss x0 (.int .i64 100) fun v4 =>
  f229_0 x0 v4 Q w)
  (f229_0 x0 (.bool false) Q w))
  (f229_4 x0 x1 Q w)

theorem f229_eq (x0 : Value) (x1 : Value) (Q : Value → World → Prop) (w : World) : f229 x0 x1 Q w = fnVC Tryz.prog Tryz.f229 [] (Tryz.f229.body.get rfl) [x0, x1] w Q := by kernel_rfl
theorem f229_ok {x0 : Value} {x1 : Value} {Q : Value → World → Prop} {w : World} (h : f229 x0 x1 Q w) : Meets Tryz.prog 229 #[x0, x1] w Q :=
  sound (c := (Tryz.f229.body.get rfl)) [] Tryz.func229 rfl rfl (args := [x0, x1]) rfl (Eq.mp (f229_eq x0 x1 Q w) h)

/-! internal/strconv.small -/
def f239_0 (x0 : Value) (Q : Value → World → Prop) (w : World) : Prop :=
  kint .i64 .mul x0 (.int .i64 2) fun v4 =>
  kint .i64 .mul x0 (.int .i64 2) fun v5 =>
  kint .i64 .add v5 (.int .i64 2) fun v6 =>
  ksl (some .string) none (.string ⟨#[48, 48, 48, 49, 48, 50, 48, 51, 48, 52, 48, 53, 48, 54, 48, 55, 48, 56, 48, 57, 49, 48, 49, 49, 49, 50, 49, 51, 49, 52, 49, 53, 49, 54, 49, 55, 49, 56, 49, 57, 50, 48, 50, 49, 50, 50, 50, 51, 50, 52, 50, 53, 50, 54, 50, 55, 50, 56, 50, 57, 51, 48, 51, 49, 51, 50, 51, 51, 51, 52, 51, 53, 51, 54, 51, 55, 51, 56, 51, 57, 52, 48, 52, 49, 52, 50, 52, 51, 52, 52, 52, 53, 52, 54, 52, 55, 52, 56, 52, 57, 53, 48, 53, 49, 53, 50, 53, 51, 53, 52, 53, 53, 53, 54, 53, 55, 53, 56, 53, 57, 54, 48, 54, 49, 54, 50, 54, 51, 54, 52, 54, 53, 54, 54, 54, 55, 54, 56, 54, 57, 55, 48, 55, 49, 55, 50, 55, 51, 55, 52, 55, 53, 55, 54, 55, 55, 55, 56, 55, 57, 56, 48, 56, 49, 56, 50, 56, 51, 56, 52, 56, 53, 56, 54, 56, 55, 56, 56, 56, 57, 57, 48, 57, 49, 57, 50, 57, 51, 57, 52, 57, 53, 57, 54, 57, 55, 57, 56, 57, 57]⟩) (some v4) (some v6) fun v7 =>
  Q v7 w

def f239 (x0 : Value) (Q : Value → World → Prop) (w : World) : Prop :=
  kint .i64 .lss x0 (.int .i64 10) fun v1 =>
  kB v1 fun b8 => kIf b8
  (kint .i64 .add x0 (.int .i64 1) fun v2 =>
  ksl (some .string) none (.string ⟨#[48, 49, 50, 51, 52, 53, 54, 55, 56, 57, 97, 98, 99, 100, 101, 102, 103, 104, 105, 106, 107, 108, 109, 110, 111, 112, 113, 114, 115, 116, 117, 118, 119, 120, 121, 122]⟩) (some x0) (some v2) fun v3 =>
  Q v3 w)
  (f239_0 x0 Q w)

theorem f239_eq (x0 : Value) (Q : Value → World → Prop) (w : World) : f239 x0 Q w = fnVC Tryz.prog Tryz.f239 [] (Tryz.f239.body.get rfl) [x0] w Q := by kernel_rfl
theorem f239_ok {x0 : Value} {Q : Value → World → Prop} {w : World} (h : f239 x0 Q w) : Meets Tryz.prog 239 #[x0] w Q :=
  sound (c := (Tryz.f239.body.get rfl)) [] Tryz.func239 rfl rfl (args := [x0]) rfl (Eq.mp (f239_eq x0 Q w) h)

end Go.Proofs.YtlkpadfkmdgjcaaGreatDoor
end
section
set_option linter.unusedSimpArgs false
set_option linter.unusedVariables false
namespace Go.Proofs.YtlkpadfkmdgjcaaGreatDoor
open Go Go.Ev
set_option linter.unusedVariables false
set_option linter.unusedSimpArgs false
set_option maxRecDepth 100000
attribute [local irreducible] kO kB kStr kInt kN kG kIf kfld kld kldN kst knew kmap kbld kbldS kext kcnv klenStr klen kcap kprt kprtN kbool kint kstr keq kun ksl kix kiv kta kmk kmm ksem ksemU kextf kcallV kcallM kcall kL

/-! ### A schema that is right -/
def byV (x : UInt8) : Value := .int .u8 (x.toNat : Int)
theorem slBy : Tryz.prog.underlying 288 = some (.slice 5) := by kernel_rfl
theorem uBy : Tryz.prog.underlying 5 = some (.int .u8) := by kernel_rfl
theorem uSt : Tryz.prog.underlying 9 = some .string := by kernel_rfl
theorem ksem_tobytes {w : World} {s : ByteArray} {K : Value → World → Prop} (h : ∀ c w', Same w w' → SlIs w' (some ⟨w.heap.size, 0, none⟩) s.size 1 (s.data.toList.map byV) → K (.slice (some ⟨w.heap.size, 0, none⟩) s.size c) w') :
    ksem Tryz.prog (convert 9 288 (.string s)) w K := by
  rw [ksem_ok (Go.Lib.run_convert_string_bytes w _ _ _ s uSt slBy uBy)]
  refine h _ _ ⟨rfl, rfl, rfl, by rw [Go.Lib.bytesWorld_size]; omega, fun k hk _ => Go.Lib.bytesWorld_at_old w _ s k hk⟩ ⟨by rw [List.length_map, Nat.mul_one]; rfl, .inr ⟨_, 0, _, _, _, rfl, Go.Lib.bytesWorld_at_new w _ s, ?_⟩⟩
  have e : (Go.Lib.bytesCells w 5 s).toList = s.data.toList.map byV ++ List.replicate (grownCap w s.size 0 5 - s.size) (.int .u8 0) := by
    unfold Go.Lib.bytesCells
    rw [Array.toList_append, Array.toList_map, Array.toList_replicate]; rfl
  rw [e, List.drop_zero, List.take_append_of_le_length (by rw [List.length_map]; exact Nat.le_of_eq (Nat.mul_one _)), List.take_of_length_le (by rw [List.length_map]; exact Nat.le_of_eq (Nat.mul_one _).symm)]
def NameOk (s : ByteArray) : Prop := 1 ≤ s.size ∧ s.size ≤ 8 ∧ ∀ x ∈ s.data.toList, 97 ≤ x.toNat ∧ x.toNat ≤ 122
theorem isName_spec {s : ByteArray} (h : NameOk s) (w : World) : Meets Tryz.prog 201 #[.string s] w fun v w' => v = .bool true ∧ Same w w' := by
  obtain ⟨h1, h8, hall⟩ := h
  refine f201_ok ?_
  unfold f201
  refine ksem_tobytes fun c w2 h2 hs2 => ?_
  have hsz : s.data.toList.length = s.size := rfl
  refine klen_at ?_
  refine kL1_of s.size (fun j x wr => x = .int .i64 j ∧ wr = w2) ⟨lI1_0 ⟨rfl, rfl⟩, fun x wr hx => ?_⟩
  obtain ⟨j, hj, ⟨rfl, rfl⟩, hJ⟩ := lI1_step hx
  unfold f201_0
  refine lss_at ?_
  refine kB_at ?_
  refine kIf_dec (fun hlt => ?_) (fun hge => ?_)
  · have hlt : j < s.size := by omega
    have hjl : j < s.data.toList.length := by omega
    have hb := hall _ (List.getElem_mem hjl)
    unfold f201_1
    have := hs2
    rw [← hsz] at this
    refine kixld_of (F := byV) (l := s.data.toList) this hjl rfl ?_ |> fun h => by rw [hsz] at h; exact h
    generalize s.data.toList[j] = x at *
    rw [byV]
    refine lss_at ?_
    rw [decF (by omega)]
    refine kB_at ?_
    refine kIf_T rfl ?_
    refine gtr_at ?_
    rw [decF (by omega)]
    unfold f201_2
    refine kB_at ?_
    refine kIf_F rfl ?_
    repeat (first | refine kN_at ?_ | refine kB_at ?_ | refine kfld_of ?_ | refine kext_at rfl ?_ | refine kG_of (by first | exact rfl | omega) ?_ | refine klen_at ?_ | refine eql_at ?_ | refine neq_at ?_ | refine lss_at ?_ | refine leq_at ?_ | refine gtr_at ?_ | refine geq_at ?_ | refine add_at (by omega) (by omega) ?_ | refine sub_at (by omega) (by omega) ?_ | refine not_at ?_ | refine kO_at ?_ | refine kprt_at rfl ?_ | refine kprtN_at rfl ?_ | refine kcap_at ?_ | refine klenStr_at ?_ | refine kN_iat ?_ | refine kN_fat ?_ | refine kIf_T (by first | exact rfl | exact decT (by omega) | exact notT (decF (by omega))) ?_ | refine kIf_F (by first | exact rfl | exact decF (by omega) | exact notF (decT (by omega))) ?_)
    rw [cast_succ]
    exact hJ _ _ hlt ⟨rfl, rfl⟩
  · unfold f201_4
    refine klenStr_at ?_
    refine geq_at ?_
    rw [decT (by omega)]
    refine kB_at ?_
    refine kIf_T rfl ?_
    refine klenStr_at ?_
    refine leq_at ?_
    rw [decT (by omega)]
    exact ⟨rfl, h2⟩
theorem find1_spec (q : Comp) {w : World} {bc : Nat} {s : ByteArray} (hb : blk w bc = some (.cells #[.string s] 9)) : Meets Tryz.prog 200 #[.agg q.cells.toArray, .pointer (some ⟨bc, 0, none⟩)] w fun v w' => v = .bool (decide (q.name = s)) ∧ Same w w' := by
  refine f200_ok ?_
  refine knew_of fun w2 hm2 hs2 hb2 => ?_
  have hb2 : blk w2 w.heap.size = some (.cells q.cells.toArray 132) := hb2
  have hbc := hm2.get hb (fun h => h)
  refine kfld_of ?_
  refine kld_of (v := .string q.name) hb2 (by simp [Comp.cells]) ?_
  refine kld_of (v := .string s) hbc rfl ?_
  rw [kstr_eql]
  exact ⟨rfl, hm2⟩
theorem indexC_spec {w : World} {a : Option Addr} {L : List Comp} {cp : Nat} (hs : SlIs w a L.length 7 (L.flatMap Comp.cells)) {bc : Nat} {s : ByteArray} (hb : blk w bc = some (.cells #[.string s] 9)) {k : Nat} (hk : k < L.length) (hkc : (L[k]).name = s) (hbef : ∀ j (hj : j < L.length), j < k → (L[j]).name ≠ s) (hlen : L.length ≤ 1000000) :
    Meets Tryz.prog 199 #[.slice a L.length cp, .func (.func 200) #[] #[.pointer (some ⟨bc, 0, none⟩)]] w fun v w' => v = .int .i64 k ∧ Same w w' := by
  refine f199_ok ?_
  unfold f199
  refine klen_at ?_
  refine kL1_of L.length (fun j x wr => x = .int .i64 j ∧ j ≤ k ∧ Same w wr) ⟨lI1_0 ⟨rfl, by omega, Mod.refl _ _⟩, fun x wr hx => ?_⟩
  obtain ⟨j, hj, ⟨rfl, hjk, hm⟩, hJ⟩ := lI1_step hx
  unfold f199_0
  refine lss_at ?_
  refine kB_at ?_
  refine kIf_dec (fun hlt => ?_) (fun hge => ?_)
  · have hlt : j < L.length := by omega
    unfold f199_1
    refine kixldN_of (F := Comp.cells) (sz := 7) (fun _ => rfl) (by omega) (hs.same hm) hlt rfl ?_
    refine kcallC_of (find1_spec L[j] (hm.get hb (fun h => h))) ?_
    rintro v w7 ⟨rfl, h7⟩
    by_cases hjk' : j = k
    · subst hjk'
      rw [hkc]
      rw [decT rfl]
      refine kB_at ?_
      refine kIf_T rfl ?_
      exact ⟨rfl, hm.trans h7⟩
    · rw [decF (hbef j hlt (by omega))]
      refine kB_at ?_
      refine kIf_F rfl ?_
      unfold f199_2
      repeat (first | refine kN_at ?_ | refine kB_at ?_ | refine kfld_of ?_ | refine kext_at rfl ?_ | refine kG_of (by first | exact rfl | omega) ?_ | refine klen_at ?_ | refine eql_at ?_ | refine neq_at ?_ | refine lss_at ?_ | refine leq_at ?_ | refine gtr_at ?_ | refine geq_at ?_ | refine add_at (by omega) (by omega) ?_ | refine sub_at (by omega) (by omega) ?_ | refine not_at ?_ | refine kO_at ?_ | refine kprt_at rfl ?_ | refine kprtN_at rfl ?_ | refine kcap_at ?_ | refine klenStr_at ?_ | refine kN_iat ?_ | refine kN_fat ?_ | refine kIf_T (by first | exact rfl | exact decT (by omega) | exact notT (decF (by omega))) ?_ | refine kIf_F (by first | exact rfl | exact decF (by omega) | exact notF (decT (by omega))) ?_)
      rw [cast_succ]
      exact hJ _ _ hlt ⟨rfl, by omega, hm.trans h7⟩
  · omega
/-- A schema's components that are right. -/
structure GoodSc (L : List Comp) : Prop where
  len : L.length ≤ 16
  names : ∀ q ∈ L, NameOk q.name
  apart : ∀ i j (hi : i < L.length) (hj : j < L.length), L[i].name = L[j].name → i = j
  wide : ∀ q ∈ L, ∃ d : Nat, q.width = (d : Int) ∧ 1 ≤ d ∧ d ≤ 4
  zero : ∀ q ∈ L, q.d0 = 0 ∧ q.d1 = 0 ∧ q.d2 = 0 ∧ q.d3 = 0
def scV (a : Option Addr) (n c : Nat) (rv : Value) : Value := .agg #[.slice a n c, rv]
theorem find_spec {w : World} {a : Option Addr} {L : List Comp} {cp : Nat} {ra : Option Addr} {rn rc : Nat} (hs : SlIs w a L.length 7 (L.flatMap Comp.cells)) (hG : GoodSc L) {k : Nat} (hk : k < L.length) :
    Meets Tryz.prog 168 #[scV a L.length cp (.slice ra rn rc), .string (L[k]).name] w fun v w' => v = .tuple #[.int .i64 k, .bool true] ∧ Same w w' := by
  have hl := hG.len
  rw [scV]
  refine f168_ok ?_
  unfold f168
  refine knew_of fun w2 hm2 hs2 hb2 => ?_
  have hb2 : blk w2 w.heap.size = some (.cells #[.slice a L.length cp, .slice ra rn rc] 34) := hb2
  refine knew_of fun w4 hm4 hs4 hb4 => ?_
  have hb4 : blk w4 w2.heap.size = some (.cells #[.string (L[k]).name] 9) := hb4
  have hb24 := hm4.get hb2 (fun h => h)
  repeat (first | refine kN_at ?_ | refine kB_at ?_ | refine kfld_of ?_ | refine kext_at rfl ?_ | refine kld_at hb24 rfl ?_ | refine kldN_at hb24 rfl (by omega) ?_ | refine kG_of (by first | exact rfl | omega) ?_ | refine klen_at ?_ | refine eql_at ?_ | refine neq_at ?_ | refine lss_at ?_ | refine leq_at ?_ | refine gtr_at ?_ | refine geq_at ?_ | refine add_at (by omega) (by omega) ?_ | refine sub_at (by omega) (by omega) ?_ | refine not_at ?_ | refine kO_at ?_ | refine kprt_at rfl ?_ | refine kprtN_at rfl ?_ | refine kcap_at ?_ | refine klenStr_at ?_ | refine kN_iat ?_ | refine kN_fat ?_ | refine kIf_T (by first | exact rfl | exact decT (by omega) | exact notT (decF (by omega))) ?_ | refine kIf_F (by first | exact rfl | exact decF (by omega) | exact notF (decT (by omega))) ?_)
  refine kcall_of (indexC_spec (hs.same (hm2.trans hm4)) hb4 hk rfl (fun j hj hjk e => by have := hG.apart j k hj hk e; omega) (by omega)) ?_
  rintro v w8 ⟨rfl, h8⟩
  rw [kmm_max]
  refine geq_at ?_
  rw [decT (by omega), show max (k : Int) 0 = (k : Int) by omega]
  exact ⟨rfl, (hm2.trans hm4).trans h8⟩
end Go.Proofs.YtlkpadfkmdgjcaaGreatDoor
end
section
set_option linter.unusedSimpArgs false
set_option linter.unusedVariables false
namespace Go.Proofs.YtlkpadfkmdgjcaaGreatDoor
open Go Go.Ev
set_option linter.unusedVariables false
set_option linter.unusedSimpArgs false
set_option maxRecDepth 100000
attribute [local irreducible] kO kB kStr kInt kN kG kIf kfld kld kldN kst knew kmap kbld kbldS kext kcnv klenStr klen kcap kprt kprtN kbool kint kstr keq kun ksl kix kiv kta kmk kmm ksem ksemU kextf kcallV kcallM kcall kL

theorem smallS_spec {n : Nat} (hn : n < 100) (w : World) : Meets Tryz.prog 239 #[.int .i64 n] w fun v w' => (∃ s, v = .string s) ∧ w' = w := by
  refine f239_ok ?_
  unfold f239
  rw [kint_lss, kB_bool]
  refine kIf_dec (fun h => ?_) (fun h => ?_)
  · rw [kint_add, wrap_i64 (by omega) (by omega), ksl_string rfl rfl]
    have hsz : (⟨#[48, 49, 50, 51, 52, 53, 54, 55, 56, 57, 97, 98, 99, 100, 101, 102, 103, 104, 105, 106, 107, 108, 109, 110, 111, 112, 113, 114, 115, 116, 117, 118, 119, 120, 121, 122]⟩ : ByteArray).size = 36 := rfl
    refine kG_of (by simp only [loV_int, hiV_int, hsz]; omega) ?_
    exact ⟨⟨_, rfl⟩, rfl⟩
  · unfold f239_0
    rw [kint_mul, wrap_i64 (by omega) (by omega), kint_mul, wrap_i64 (by omega) (by omega), kint_add, wrap_i64 (by omega) (by omega), ksl_string rfl rfl]
    refine kG_of ?_ ?_
    · simp only [loV_int, hiV_int]
      refine ⟨by omega, by omega, ?_⟩
      show (n : Int) * 2 + 2 ≤ ((200 : Nat) : Int)
      omega
    exact ⟨⟨_, rfl⟩, rfl⟩
theorem itoaS_spec {n : Nat} (hn : n < 100) (w : World) : Meets Tryz.prog 170 #[.int .i64 n] w fun v w' => (∃ s, v = .string s) ∧ w' = w := by
  have h2 : Meets Tryz.prog 229 #[.int .i64 n, .int .i64 10] w fun v w' => (∃ s, v = .string s) ∧ w' = w := by
    refine f229_ok ?_
    unfold f229
    rw [kint_eql, kB_bool]
    refine kIf_dec (fun _ => ?_) (fun h => absurd rfl h)
    rw [kint_leq, kB_bool]
    refine kIf_dec (fun _ => ?_) (fun h => absurd (by omega) h)
    rw [kint_lss]
    unfold f229_0
    rw [kB_bool]
    refine kIf_dec (fun _ => ?_) (fun h => absurd (by omega) h)
    refine kcall_of (smallS_spec hn w) ?_
    rintro v w' h
    exact h
  have h3 : Meets Tryz.prog 202 #[.int .i64 n] w fun v w' => (∃ s, v = .string s) ∧ w' = w := by
    refine f202_ok ?_
    unfold f202
    refine kcall_of h2 ?_
    rintro v w' h
    exact h
  refine f170_ok ?_
  unfold f170
  refine kcall_of h3 ?_
  rintro v w' h
  exact h
theorem named_spec {s : ByteArray} (h : NameOk s) (f : Value) (kd : Value) {n : Nat} (hn : n < 100) (w : World) : Meets Tryz.prog 169 #[f, .string s, .bool false, kd, .int .i64 n] w fun v w' => v = .tuple #[] ∧ Same w w' := by
  refine f169_ok ?_
  unfold f169
  refine kcall_of (itoaS_spec hn w) ?_
  rintro v w2 ⟨⟨s2, rfl⟩, rfl⟩
  refine kcall_of (isName_spec h _) ?_
  rintro v w4 ⟨rfl, h4⟩
  refine not_at ?_
  refine kB_at ?_
  refine kIf_F rfl ?_
  refine kB_at ?_
  refine kIf_F rfl ?_
  exact ⟨rfl, h4⟩
theorem isClean_spec {nm : ByteArray} {rb : Bool} {d : Nat} (h1 : 1 ≤ d) (h4 : d ≤ 4) (w : World) : Meets Tryz.prog 171 #[.agg #[.string nm, .int .i64 d, .bool rb, .int .i64 0, .int .i64 0, .int .i64 0, .int .i64 0]] w fun v w' => v = .bool true ∧ Same w w' := by
  refine f171_ok ?_
  unfold f171
  refine knew_of fun w2 hm2 hs2 hb2 => ?_
  have hb2 : blk w2 w.heap.size = some (.cells #[.string nm, .int .i64 d, .bool rb, .int .i64 0, .int .i64 0, .int .i64 0, .int .i64 0] 132) := hb2
  repeat (first | refine kN_at ?_ | refine kB_at ?_ | refine kfld_of ?_ | refine kext_at rfl ?_ | refine kld_at hb2 rfl ?_ | refine kldN_at hb2 rfl (by omega) ?_ | refine kG_of (by first | exact rfl | omega) ?_ | refine klen_at ?_ | refine eql_at ?_ | refine neq_at ?_ | refine lss_at ?_ | refine leq_at ?_ | refine gtr_at ?_ | refine geq_at ?_ | refine add_at (by omega) (by omega) ?_ | refine sub_at (by omega) (by omega) ?_ | refine not_at ?_ | refine kO_at ?_ | refine kprt_at rfl ?_ | refine kprtN_at rfl ?_ | refine kcap_at ?_ | refine klenStr_at ?_ | refine kN_iat ?_ | refine kN_fat ?_ | refine kIf_T (by first | exact rfl | exact decT (by omega) | exact notT (decF (by omega))) ?_ | refine kIf_F (by first | exact rfl | exact decF (by omega) | exact notF (decT (by omega))) ?_)
  refine ksl_arr_lo (n := d) (by omega) ?_
  have hsl : SlIs w2 (some ⟨w.heap.size, if 4 = d then 0 + 3 else 0 + 3 + d * 1, none⟩) (List.replicate (4 - d) (0 : Int)).length 1 ((List.replicate (4 - d) (0 : Int)).map (Value.int .i64)) := by
    refine ⟨by simp, ?_⟩
    by_cases h : 4 = d
    · left; simp; omega
    · refine .inr ⟨_, _, _, _, _, rfl, hb2, ?_⟩
      rw [if_neg h]
      have : d = 1 ∨ d = 2 ∨ d = 3 := by omega
      rcases this with rfl | rfl | rfl <;> rfl
  have hrl : (List.replicate (4 - d) (0 : Int)).length = 4 - d := by simp
  refine klen_at ?_
  refine kL1_of (4 - d) (fun j x wr => x = .int .i64 j ∧ wr = w2) ⟨lI1_0 ⟨rfl, rfl⟩, fun x wr hx => ?_⟩
  obtain ⟨j, hj, ⟨rfl, rfl⟩, hJ⟩ := lI1_step hx
  unfold f171_0
  refine lss_at ?_
  refine kB_at ?_
  refine kIf_dec (fun hlt => ?_) (fun hge => ?_)
  · have hlt : j < 4 - d := by omega
    unfold f171_1
    refine kixld_of (F := Value.int .i64) (l := List.replicate (4 - d) (0 : Int)) hsl (by omega) rfl ?_ |> fun h => by rw [hrl] at h; exact h
    rw [List.getElem_replicate]
    refine neq_at ?_
    rw [decF (by omega)]
    refine kB_at ?_
    refine kIf_F rfl ?_
    unfold f171_2
    repeat (first | refine kN_at ?_ | refine kB_at ?_ | refine kfld_of ?_ | refine kext_at rfl ?_ | refine kG_of (by first | exact rfl | omega) ?_ | refine klen_at ?_ | refine eql_at ?_ | refine neq_at ?_ | refine lss_at ?_ | refine leq_at ?_ | refine gtr_at ?_ | refine geq_at ?_ | refine add_at (by omega) (by omega) ?_ | refine sub_at (by omega) (by omega) ?_ | refine not_at ?_ | refine kO_at ?_ | refine kprt_at rfl ?_ | refine kprtN_at rfl ?_ | refine kcap_at ?_ | refine klenStr_at ?_ | refine kN_iat ?_ | refine kN_fat ?_ | refine kIf_T (by first | exact rfl | exact decT (by omega) | exact notT (decF (by omega))) ?_ | refine kIf_F (by first | exact rfl | exact decF (by omega) | exact notF (decT (by omega))) ?_)
    rw [cast_succ]
    exact hJ _ _ hlt ⟨rfl, rfl⟩
  · exact ⟨rfl, hm2⟩
theorem component_spec {w : World} {a : Option Addr} {L : List Comp} {cp : Nat} {ra : Option Addr} {rn rc : Nat} (hs : SlIs w a L.length 7 (L.flatMap Comp.cells)) (hG : GoodSc L) {k : Nat} (hk : k < L.length) (f : Value) :
    Meets Tryz.prog 129 #[f, scV a L.length cp (.slice ra rn rc), .int .i64 k] w fun v w' => v = .tuple #[] ∧ Same w w' := by
  have hl := hG.len
  have hkm := List.getElem_mem hk
  obtain ⟨d, hd, hd1, hd4⟩ := hG.wide _ hkm
  rw [scV]
  refine f129_ok ?_
  unfold f129
  refine knew_of fun w2 hm2 hs2 hb2 => ?_
  have hb2 : blk w2 w.heap.size = some (.cells #[.slice a L.length cp, .slice ra rn rc] 34) := hb2
  repeat (first | refine kN_at ?_ | refine kB_at ?_ | refine kfld_of ?_ | refine kext_at rfl ?_ | refine kld_at hb2 rfl ?_ | refine kldN_at hb2 rfl (by omega) ?_ | refine kG_of (by first | exact rfl | omega) ?_ | refine klen_at ?_ | refine eql_at ?_ | refine neq_at ?_ | refine lss_at ?_ | refine leq_at ?_ | refine gtr_at ?_ | refine geq_at ?_ | refine add_at (by omega) (by omega) ?_ | refine sub_at (by omega) (by omega) ?_ | refine not_at ?_ | refine kO_at ?_ | refine kprt_at rfl ?_ | refine kprtN_at rfl ?_ | refine kcap_at ?_ | refine klenStr_at ?_ | refine kN_iat ?_ | refine kN_fat ?_ | refine kIf_T (by first | exact rfl | exact decT (by omega) | exact notT (decF (by omega))) ?_ | refine kIf_F (by first | exact rfl | exact decF (by omega) | exact notF (decT (by omega))) ?_)
  refine kixldN_of (F := Comp.cells) (sz := 7) (fun _ => rfl) (by omega) (hs.same hm2) hk rfl ?_
  refine knew_of fun w8 h8 hs8 hb8 => ?_
  refine kst_of (vs := (L[k]).cells) hb8 rfl rfl rfl (by simp) (by simp [Comp.cells]) fun w9 h9 hs9 hb9 => ?_
  have hb9 : blk w9 w2.heap.size = some (.cells (L[k]).cells.toArray 132) := hb9
  have hb9' : blk w9 w2.heap.size = some (.cells #[.string (L[k]).name, .int .i64 d, .bool (L[k]).rb, .int .i64 0, .int .i64 0, .int .i64 0, .int .i64 0] 132) := by
    obtain ⟨z0, z1, z2, z3⟩ := hG.zero _ hkm
    rw [hb9]; simp [Comp.cells, hd, z0, z1, z2, z3]
  have hb29 := h9.get (h8.get hb2 (fun h => h)) (by omega)
  have m9 : Same w w9 := (hm2.trans h8).trans' (h9.mono fun k _ e => .inr (by omega))
  repeat (first | refine kN_at ?_ | refine kB_at ?_ | refine kfld_of ?_ | refine kext_at rfl ?_ | refine kld_at hb29 rfl ?_ | refine kld_at hb9' rfl ?_ | refine kldN_at hb29 rfl (by omega) ?_ | refine kldN_at hb9' rfl (by omega) ?_ | refine kG_of (by first | exact rfl | omega) ?_ | refine klen_at ?_ | refine eql_at ?_ | refine neq_at ?_ | refine lss_at ?_ | refine leq_at ?_ | refine gtr_at ?_ | refine geq_at ?_ | refine add_at (by omega) (by omega) ?_ | refine sub_at (by omega) (by omega) ?_ | refine not_at ?_ | refine kO_at ?_ | refine kprt_at rfl ?_ | refine kprtN_at rfl ?_ | refine kcap_at ?_ | refine klenStr_at ?_ | refine kN_iat ?_ | refine kN_fat ?_ | refine kIf_T (by first | exact rfl | exact decT (by omega) | exact notT (decF (by omega))) ?_ | refine kIf_F (by first | exact rfl | exact decF (by omega) | exact notF (decT (by omega))) ?_)
  have hfs := find_spec (ra := ra) (rn := rn) (rc := rc) (cp := cp) (hs.same m9) hG hk
  rw [scV] at hfs
  refine kcall_of hfs ?_
  rintro v w14 ⟨rfl, h14⟩
  have hb14 := h14.get hb9' (fun h => h)
  repeat (first | refine kN_at ?_ | refine kB_at ?_ | refine kfld_of ?_ | refine kext_at rfl ?_ | refine kld_at hb14 rfl ?_ | refine kldN_at hb14 rfl (by omega) ?_ | refine kG_of (by first | exact rfl | omega) ?_ | refine klen_at ?_ | refine eql_at ?_ | refine neq_at ?_ | refine lss_at ?_ | refine leq_at ?_ | refine gtr_at ?_ | refine geq_at ?_ | refine add_at (by omega) (by omega) ?_ | refine sub_at (by omega) (by omega) ?_ | refine not_at ?_ | refine kO_at ?_ | refine kprt_at rfl ?_ | refine kprtN_at rfl ?_ | refine kcap_at ?_ | refine klenStr_at ?_ | refine kN_iat ?_ | refine kN_fat ?_ | refine kIf_T (by first | exact rfl | exact decT (by omega) | exact notT (decF (by omega))) ?_ | refine kIf_F (by first | exact rfl | exact decF (by omega) | exact notF (decT (by omega))) ?_)
  rw [decF (show ¬ (k : Int) < (k : Int) by omega)]
  refine kcall_of (named_spec (hG.names _ hkm) f _ (by omega) w14) ?_
  rintro v w22 ⟨rfl, h22⟩
  have hb22 := h22.get hb14 (fun h => h)
  unfold f129_0
  refine kcall_of (itoaS_spec (by omega) w22) ?_
  rintro v w24 ⟨⟨s2, rfl⟩, rfl⟩
  repeat (first | refine kN_at ?_ | refine kB_at ?_ | refine kfld_of ?_ | refine kext_at rfl ?_ | refine kld_at hb22 rfl ?_ | refine kldN_at hb22 rfl (by omega) ?_ | refine kG_of (by first | exact rfl | omega) ?_ | refine klen_at ?_ | refine eql_at ?_ | refine neq_at ?_ | refine lss_at ?_ | refine leq_at ?_ | refine gtr_at ?_ | refine geq_at ?_ | refine add_at (by omega) (by omega) ?_ | refine sub_at (by omega) (by omega) ?_ | refine not_at ?_ | refine kO_at ?_ | refine kprt_at rfl ?_ | refine kprtN_at rfl ?_ | refine kcap_at ?_ | refine klenStr_at ?_ | refine kN_iat ?_ | refine kN_fat ?_ | refine kIf_T (by first | exact rfl | exact decT (by omega) | exact notT (decF (by omega))) ?_ | refine kIf_F (by first | exact rfl | exact decF (by omega) | exact notF (decT (by omega))) ?_)
  refine kcall_of (isClean_spec hd1 hd4 _) ?_
  rintro v w39 ⟨rfl, h39⟩
  refine not_at ?_
  refine kB_at ?_
  refine kIf_F rfl ?_
  exact ⟨rfl, ((m9.trans h14).trans h22).trans h39⟩
end Go.Proofs.YtlkpadfkmdgjcaaGreatDoor
end
section
set_option linter.unusedSimpArgs false
set_option linter.unusedVariables false
namespace Go.Proofs.YtlkpadfkmdgjcaaGreatDoor
open Go Go.Ev
set_option linter.unusedVariables false
set_option linter.unusedSimpArgs false
set_option maxRecDepth 100000
attribute [local irreducible] kO kB kStr kInt kN kG kIf kfld kld kldN kst knew kmap kbld kbldS kext kcnv klenStr klen kcap kprt kprtN kbool kint kstr keq kun ksl kix kiv kta kmk kmm ksem ksemU kextf kcallV kcallM kcall kL

theorem check_spec {w : World} {a : Option Addr} {L : List Comp} {cp : Nat} {ra : Option Addr} {rc : Nat} (hs : SlIs w a L.length 7 (L.flatMap Comp.cells)) (hG : GoodSc L) :
    Meets Tryz.prog 67 #[scV a L.length cp (.slice ra 0 rc)] w fun v w' => v = .nilIface ∧ Same w w' := by
  have hl := hG.len
  rw [scV]
  refine f67_ok ?_
  unfold f67
  refine knew_of fun w2 hm2 hs2 hb2 => ?_
  have hb2 : blk w2 w.heap.size = some (.cells #[.slice a L.length cp, .slice ra 0 rc] 34) := hb2
  refine kbld_of (cs := [.slice none 0 0]) rfl ?_
  refine knew_of fun w5 hm5 hs5 hb5 => ?_
  have hb25 := hm5.get hb2 (fun h => h)
  have m5 := hm2.trans hm5
  repeat (first | refine kN_at ?_ | refine kB_at ?_ | refine kfld_of ?_ | refine kext_at rfl ?_ | refine kld_at hb25 rfl ?_ | refine kldN_at hb25 rfl (by omega) ?_ | refine kG_of (by first | exact rfl | omega) ?_ | refine klen_at ?_ | refine eql_at ?_ | refine neq_at ?_ | refine lss_at ?_ | refine leq_at ?_ | refine gtr_at ?_ | refine geq_at ?_ | refine add_at (by omega) (by omega) ?_ | refine sub_at (by omega) (by omega) ?_ | refine not_at ?_ | refine kO_at ?_ | refine kprt_at rfl ?_ | refine kprtN_at rfl ?_ | refine kcap_at ?_ | refine klenStr_at ?_ | refine kN_iat ?_ | refine kN_fat ?_ | refine kIf_T (by first | exact rfl | exact decT (by omega) | exact notT (decF (by omega))) ?_ | refine kIf_F (by first | exact rfl | exact decF (by omega) | exact notF (decT (by omega))) ?_)
  refine kL1_of L.length (fun j x wr => x = .int .i64 j ∧ Same w5 wr) ⟨lI1_0 ⟨rfl, Mod.refl _ _⟩, fun x wr hx => ?_⟩
  obtain ⟨j, hj, ⟨rfl, hm⟩, hJ⟩ := lI1_step hx
  have hbr := hm.get hb25 (fun h => h)
  have h5r := hm.get hb5 (fun h => h)
  unfold f67_1
  refine lss_at ?_
  refine kB_at ?_
  refine kIf_dec (fun hlt => ?_) (fun hge => ?_)
  · have hlt : j < L.length := by omega
    unfold f67_2
    repeat (first | refine kN_at ?_ | refine kB_at ?_ | refine kfld_of ?_ | refine kext_at rfl ?_ | refine kld_at hbr rfl ?_ | refine kldN_at hbr rfl (by omega) ?_ | refine kG_of (by first | exact rfl | omega) ?_ | refine klen_at ?_ | refine eql_at ?_ | refine neq_at ?_ | refine lss_at ?_ | refine leq_at ?_ | refine gtr_at ?_ | refine geq_at ?_ | refine add_at (by omega) (by omega) ?_ | refine sub_at (by omega) (by omega) ?_ | refine not_at ?_ | refine kO_at ?_ | refine kprt_at rfl ?_ | refine kprtN_at rfl ?_ | refine kcap_at ?_ | refine klenStr_at ?_ | refine kN_iat ?_ | refine kN_fat ?_ | refine kIf_T (by first | exact rfl | exact decT (by omega) | exact notT (decF (by omega))) ?_ | refine kIf_F (by first | exact rfl | exact decF (by omega) | exact notF (decT (by omega))) ?_)
    have hcs := component_spec (ra := ra) (rn := 0) (rc := rc) (cp := cp) (hs.same (m5.trans hm)) hG hlt (.pointer (some ⟨w2.heap.size, 0, none⟩))
    rw [scV] at hcs
    refine kcall_of hcs ?_
    rintro v w23 ⟨rfl, h23⟩
    repeat (first | refine kN_at ?_ | refine kB_at ?_ | refine kfld_of ?_ | refine kext_at rfl ?_ | refine kG_of (by first | exact rfl | omega) ?_ | refine klen_at ?_ | refine eql_at ?_ | refine neq_at ?_ | refine lss_at ?_ | refine leq_at ?_ | refine gtr_at ?_ | refine geq_at ?_ | refine add_at (by omega) (by omega) ?_ | refine sub_at (by omega) (by omega) ?_ | refine not_at ?_ | refine kO_at ?_ | refine kprt_at rfl ?_ | refine kprtN_at rfl ?_ | refine kcap_at ?_ | refine klenStr_at ?_ | refine kN_iat ?_ | refine kN_fat ?_ | refine kIf_T (by first | exact rfl | exact decT (by omega) | exact notT (decF (by omega))) ?_ | refine kIf_F (by first | exact rfl | exact decF (by omega) | exact notF (decT (by omega))) ?_)
    rw [cast_succ]
    exact hJ _ _ hlt ⟨rfl, hm.trans h23⟩
  · unfold f67_4
    repeat (first | refine kN_at ?_ | refine kB_at ?_ | refine kfld_of ?_ | refine kext_at rfl ?_ | refine kld_at hbr rfl ?_ | refine kldN_at hbr rfl (by omega) ?_ | refine kG_of (by first | exact rfl | omega) ?_ | refine klen_at ?_ | refine eql_at ?_ | refine neq_at ?_ | refine lss_at ?_ | refine leq_at ?_ | refine gtr_at ?_ | refine geq_at ?_ | refine add_at (by omega) (by omega) ?_ | refine sub_at (by omega) (by omega) ?_ | refine not_at ?_ | refine kO_at ?_ | refine kprt_at rfl ?_ | refine kprtN_at rfl ?_ | refine kcap_at ?_ | refine klenStr_at ?_ | refine kN_iat ?_ | refine kN_fat ?_ | refine kIf_T (by first | exact rfl | exact decT (by omega) | exact notT (decF (by omega))) ?_ | refine kIf_F (by first | exact rfl | exact decF (by omega) | exact notF (decT (by omega))) ?_)
    refine kL1_of 0 (fun j x w1 => x = .int .i64 0 ∧ w1 = wr) ⟨lI1_0 ⟨rfl, rfl⟩, fun x w1 hx => ?_⟩
    obtain ⟨j', hj', ⟨rfl, rfl⟩, _⟩ := lI1_step hx
    unfold f67_6
    refine lss_at ?_
    refine kB_at ?_
    refine kIf_F (by simp) ?_
    unfold f67_9
    have h5r : blk w1 w2.heap.size = some (.cells #[.slice none 0 0] 213) := h5r
    repeat (first | refine kN_at ?_ | refine kB_at ?_ | refine kfld_of ?_ | refine kext_at rfl ?_ | refine kld_at h5r rfl ?_ | refine kldN_at h5r rfl (by omega) ?_ | refine kG_of (by first | exact rfl | omega) ?_ | refine klen_at ?_ | refine eql_at ?_ | refine neq_at ?_ | refine lss_at ?_ | refine leq_at ?_ | refine gtr_at ?_ | refine geq_at ?_ | refine add_at (by omega) (by omega) ?_ | refine sub_at (by omega) (by omega) ?_ | refine not_at ?_ | refine kO_at ?_ | refine kprt_at rfl ?_ | refine kprtN_at rfl ?_ | refine kcap_at ?_ | refine klenStr_at ?_ | refine kN_iat ?_ | refine kN_fat ?_ | refine kIf_T (by first | exact rfl | exact decT (by omega) | exact notT (decF (by omega))) ?_ | refine kIf_F (by first | exact rfl | exact decF (by omega) | exact notF (decT (by omega))) ?_)
    refine kcall_of (All_spec (S := fun _ => ⟨0, 0, none⟩) (d := 0) (zs := []) (SlIs.nil _ _ _) (fun p hp => by cases hp) (by simp) (by simp)) ?_
    rintro v w46 ⟨h1, h46⟩
    rcases h1.nil_iff with ⟨_, rfl⟩ | ⟨h, _⟩
    · exact ⟨rfl, (m5.trans hm).trans h46⟩
    · exact absurd rfl h
end Go.Proofs.YtlkpadfkmdgjcaaGreatDoor
end
section
set_option linter.unusedSimpArgs false
set_option linter.unusedVariables false
namespace Go.Proofs.YtlkpadfkmdgjcaaGreatDoor
open Go Go.Ev
set_option linter.unusedVariables false
set_option linter.unusedSimpArgs false
set_option maxRecDepth 100000
attribute [local irreducible] kO kB kStr kInt kN kG kIf kfld kld kldN kst knew kmap kbld kbldS kext kcnv klenStr klen kcap kprt kprtN kbool kint kstr keq kun ksl kix kiv kta kmk kmm ksem ksemU kextf kcallV kcallM kcall kL

theorem apComp : appT Tryz.prog 31 7 64 = true := by kernel_rfl
theorem slComp : isSlT Tryz.prog 31 = true := by kernel_rfl
theorem slComp_is : ∃ e, Tryz.prog.underlying 31 = some (.slice e) := slT_of (by kernel_rfl)
theorem apRes : appT Tryz.prog 32 2 24 = true := by kernel_rfl
theorem slRes : isSlT Tryz.prog 32 = true := by kernel_rfl
theorem slRes_is : ∃ e, Tryz.prog.underlying 32 = some (.slice e) := slT_of (by kernel_rfl)
theorem ones_comps : ∀ L : List Comp, oneCells (L.flatMap Comp.cells) = true
  | [] => rfl
  | q :: L => by
    rw [List.flatMap_cons]
    show oneCells (.string q.name :: .int .i64 q.width :: .bool q.rb :: .int .i64 q.d0 :: .int .i64 q.d1 :: .int .i64 q.d2 :: .int .i64 q.d3 :: L.flatMap Comp.cells) = true
    simp only [oneCells, ones_comps L]; rfl
theorem cloneC_spec {w : World} {a : Option Addr} {L : List Comp} {c : Nat} (hs : SlIs w a L.length 7 (L.flatMap Comp.cells)) (hn : L.length ≤ 1000000) :
    Meets Tryz.prog 71 #[.slice a L.length c] w fun v w' => Own w' v 7 (L.flatMap Comp.cells) ∧ Same w w' ∧ (∀ k, vblk v k → w.heap.size ≤ k) := by
  have hfl := flat_len Comp.cells 7 (fun _ => rfl) L
  refine f71_ok ?_
  unfold f71
  rw [keq_sl_nil slComp]
  cases a with
  | none =>
    have hL : L.length = 0 := by rcases hs.2 with h | ⟨_, _, _, _, _, h, _⟩; exact h; cases h
    have : L = [] := List.eq_nil_of_length_eq_zero hL
    subst this
    repeat (first | refine kN_at ?_ | refine kB_at ?_ | refine kfld_of ?_ | refine kext_at rfl ?_ | refine kG_of (by first | exact rfl | omega) ?_ | refine klen_at ?_ | refine eql_at ?_ | refine neq_at ?_ | refine lss_at ?_ | refine leq_at ?_ | refine gtr_at ?_ | refine geq_at ?_ | refine add_at (by omega) (by omega) ?_ | refine sub_at (by omega) (by omega) ?_ | refine not_at ?_ | refine kO_at ?_ | refine kprt_at rfl ?_ | refine kprtN_at rfl ?_ | refine kcap_at ?_ | refine klenStr_at ?_ | refine kN_iat ?_ | refine kN_fat ?_ | refine kIf_T (by first | exact rfl | exact decT (by omega) | exact notT (decF (by omega))) ?_ | refine kIf_F (by first | exact rfl | exact decF (by omega) | exact notF (decT (by omega))) ?_)
    exact ⟨Own.nil _ _, Mod.refl _ _, fun b hb => by obtain ⟨_, _, _, h⟩ := hb; cases h⟩
  | some a =>
    repeat (first | refine kN_at ?_ | refine kB_at ?_ | refine kfld_of ?_ | refine kext_at rfl ?_ | refine kG_of (by first | exact rfl | omega) ?_ | refine klen_at ?_ | refine eql_at ?_ | refine neq_at ?_ | refine lss_at ?_ | refine leq_at ?_ | refine gtr_at ?_ | refine geq_at ?_ | refine add_at (by omega) (by omega) ?_ | refine sub_at (by omega) (by omega) ?_ | refine not_at ?_ | refine kO_at ?_ | refine kprt_at rfl ?_ | refine kprtN_at rfl ?_ | refine kcap_at ?_ | refine klenStr_at ?_ | refine kN_iat ?_ | refine kN_fat ?_ | refine kIf_T (by first | exact rfl | exact decT (by omega) | exact notT (decF (by omega))) ?_ | refine kIf_F (by first | exact rfl | exact decF (by omega) | exact notF (decT (by omega))) ?_)
    unfold f71_0
    refine kbldS_of (cs := []) rfl fun w5 h5 hs5 hb5 => ?_
    refine ksem_append apComp (by omega) (vs := []) (Own.blk hb5 (n := 0) (by simp) (by simp [maxLen])) (Src.ofSlIs (hk := slComp_is.choose_spec) c (hs.same h5) (ones_comps L)) (by simp [hfl]; omega) (by simp [hfl]; omega) ?_
    intro v' w' ho hm hf
    refine ⟨by simpa using ho, Mod.after h5 hm (fun b hb => by rw [vblk_new hb]; exact Nat.le_refl _), fun b hb => ?_⟩
    rcases hf b hb with h | h
    · rw [vblk_new h]; exact Nat.le_refl _
    · omega
theorem cloneR_spec {w : World} {a : Option Addr} {c : Nat} :
    Meets Tryz.prog 72 #[.slice a 0 c] w fun v w' => (∃ a' n' c', v = .slice a' n' c') ∧ Same w w' := by
  refine f72_ok ?_
  unfold f72
  rw [keq_sl_nil slRes]
  cases a with
  | none =>
    repeat (first | refine kN_at ?_ | refine kB_at ?_ | refine kfld_of ?_ | refine kext_at rfl ?_ | refine kG_of (by first | exact rfl | omega) ?_ | refine klen_at ?_ | refine eql_at ?_ | refine neq_at ?_ | refine lss_at ?_ | refine leq_at ?_ | refine gtr_at ?_ | refine geq_at ?_ | refine add_at (by omega) (by omega) ?_ | refine sub_at (by omega) (by omega) ?_ | refine not_at ?_ | refine kO_at ?_ | refine kprt_at rfl ?_ | refine kprtN_at rfl ?_ | refine kcap_at ?_ | refine klenStr_at ?_ | refine kN_iat ?_ | refine kN_fat ?_ | refine kIf_T (by first | exact rfl | exact decT (by omega) | exact notT (decF (by omega))) ?_ | refine kIf_F (by first | exact rfl | exact decF (by omega) | exact notF (decT (by omega))) ?_)
    exact ⟨⟨_, _, _, rfl⟩, Mod.refl _ _⟩
  | some a =>
    repeat (first | refine kN_at ?_ | refine kB_at ?_ | refine kfld_of ?_ | refine kext_at rfl ?_ | refine kG_of (by first | exact rfl | omega) ?_ | refine klen_at ?_ | refine eql_at ?_ | refine neq_at ?_ | refine lss_at ?_ | refine leq_at ?_ | refine gtr_at ?_ | refine geq_at ?_ | refine add_at (by omega) (by omega) ?_ | refine sub_at (by omega) (by omega) ?_ | refine not_at ?_ | refine kO_at ?_ | refine kprt_at rfl ?_ | refine kprtN_at rfl ?_ | refine kcap_at ?_ | refine klenStr_at ?_ | refine kN_iat ?_ | refine kN_fat ?_ | refine kIf_T (by first | exact rfl | exact decT (by omega) | exact notT (decF (by omega))) ?_ | refine kIf_F (by first | exact rfl | exact decF (by omega) | exact notF (decT (by omega))) ?_)
    unfold f72_0
    refine kbldS_of (cs := []) rfl fun w5 h5 hs5 hb5 => ?_
    refine ksem_append apRes (by omega) (vs := []) (Own.blk hb5 (n := 0) (by simp) (by simp [maxLen])) (Src.ofSlIs (hk := slRes_is.choose_spec) c (SlIs.nil _ _ _) rfl) (by simp) (by simp) ?_
    intro v' w' ho hm hf
    obtain ⟨a', n', c', rfl, _⟩ := ho.is
    exact ⟨⟨_, _, _, rfl⟩, Mod.after h5 hm (fun b hb => by rw [vblk_new hb]; exact Nat.le_refl _)⟩
end Go.Proofs.YtlkpadfkmdgjcaaGreatDoor
end
section
set_option linter.unusedSimpArgs false
set_option linter.unusedVariables false
namespace Go.Proofs.YtlkpadfkmdgjcaaGreatDoor
open Go Go.Ev
set_option linter.unusedVariables false
set_option linter.unusedSimpArgs false
set_option maxRecDepth 100000
attribute [local irreducible] kO kB kStr kInt kN kG kIf kfld kld kldN kst knew kmap kbld kbldS kext kcnv klenStr klen kcap kprt kprtN kbool kint kstr keq kun ksl kix kiv kta kmk kmm ksem ksemU kextf kcallV kcallM kcall kL

/-! ### A new store -/
def newS0 (L : List Comp) (most : Nat) : SM := ⟨List.replicate most (0, false), (List.range most).reverse, L, [0], [], List.replicate most (0, 0)⟩
def newS (L : List Comp) (most : Nat) : SM := layS (newS0 L most) 1
theorem newS_gs {L : List Comp} {most : Nat} (h : most ≤ 64) : GS (newS L most) 0 := by
  have hd : ∀ (i : Nat) (x : Int × Bool), (List.replicate most ((0 : Int), false))[i]? = some x → x = (0, false) := fun i x e => by
    obtain ⟨_, e⟩ := List.getElem?_eq_some_iff.1 e
    rw [List.getElem_replicate] at e; exact e.symm
  refine ⟨⟨by simp [newS, newS0, layS], fun i g hg _ => ?_, fun n T r e hT hr => ?_, fun n T c hT hc => ?_⟩, ⟨?_, fun i => ?_⟩, fun i x hx => ?_, by simp [newS, newS0, layS], by simp [newS, newS0, layS]; exact h⟩
  · have := hd i _ hg; cases this
  · rcases layS_tabs hT with hT | rfl
    · cases hT
    · cases hr
  · rcases layS_tabs hT with hT | rfl
    · cases hT
    · rfl
  · show (List.range most).reverse.Nodup
    unfold List.Nodup
    rw [List.pairwise_reverse]
    exact List.nodup_range.imp (fun h e => h e.symm)
  · show i ∈ (List.range most).reverse ↔ ∃ g, (List.replicate most ((0 : Int), false))[i]? = some (g, false)
    rw [List.mem_reverse, List.mem_range]
    constructor
    · intro hi; exact ⟨0, by rw [List.getElem?_replicate, if_pos hi]⟩
    · rintro ⟨g, e⟩
      have := (List.getElem?_eq_some_iff.1 e).1
      simpa using this
  · have := hd i x hx
    subst this
    simp
def newLab (o : Lab) (n bc bp bS k : Nat) : Option Tag := if k < n then o k else if k = bS then some .store else if k = bp then some .spots else if k = bc then some .sch else none
theorem newS_good {L : List Comp} (hG : GoodSc L) : GoodC L := ⟨hG.len, fun q hq => by obtain ⟨d, e, h1, h4⟩ := hG.wide q hq; omega⟩
theorem sNew_spec {w : World} (hD : DeAt w) {a : Option Addr} {L : List Comp} {cp : Nat} {ra : Option Addr} {rc : Nat} (hs : SlIs w a L.length 7 (L.flatMap Comp.cells)) (hG : GoodSc L) {most : Nat} (hm : most ≤ 64) :
    Meets Tryz.prog 12 #[scV a L.length cp (.slice ra 0 rc), .int .i64 most] w fun v w' => ∃ b, v = .tuple #[ptrV b, .nilIface] ∧ ∃ o p, StoreP o w' b p (newS L most) ∧ (∀ k, k < w.heap.size → o k = none) ∧ (∀ k, w'.heap.size ≤ k → o k = none) ∧ Same w w' := by
  have hl := hG.len
  rw [scV]
  refine f12_ok ?_
  unfold f12
  refine knew_of fun w2 h2 hs2 hb2 => ?_
  have hb2 : blk w2 w.heap.size = some (.cells #[.slice a L.length cp, .slice ra 0 rc] 34) := hb2
  repeat (first | refine kN_at ?_ | refine kB_at ?_ | refine kfld_of ?_ | refine kext_at rfl ?_ | refine kld_at hb2 rfl ?_ | refine kldN_at hb2 rfl (by omega) ?_ | refine kG_of (by first | exact rfl | omega) ?_ | refine klen_at ?_ | refine eql_at ?_ | refine neq_at ?_ | refine lss_at ?_ | refine leq_at ?_ | refine gtr_at ?_ | refine geq_at ?_ | refine add_at (by omega) (by omega) ?_ | refine sub_at (by omega) (by omega) ?_ | refine not_at ?_ | refine kO_at ?_ | refine kprt_at rfl ?_ | refine kprtN_at rfl ?_ | refine kcap_at ?_ | refine klenStr_at ?_ | refine kN_iat ?_ | refine kN_fat ?_ | refine kIf_T (by first | exact rfl | exact decT (by omega) | exact notT (decF (by omega))) ?_ | refine kIf_F (by first | exact rfl | exact decF (by omega) | exact notF (decT (by omega))) ?_)
  have hck := check_spec (ra := ra) (rc := rc) (cp := cp) (hs.same h2) hG
  rw [scV] at hck
  refine kcall_of hck ?_
  rintro v w5 ⟨rfl, h5⟩
  have hb5 := h5.get hb2 (fun h => h)
  have m5 := h2.trans h5
  rw [keq_nil_nil' ifErr]
  refine kB_at ?_
  refine kIf_F rfl ?_
  unfold f12_0
  refine kcall_of (rNew_spec (fun _ => none) w5 most hm) ?_
  rintro v w11 ⟨bR, o1, rfl, hl1, hR, h11, hr1, hbR⟩
  have hb11 := h11.get hb5 (fun h => h)
  have m11 := m5.trans h11
  have hRl := hR.1
  repeat (first | refine kN_at ?_ | refine kB_at ?_ | refine kfld_of ?_ | refine kext_at rfl ?_ | refine kG_of (by first | exact rfl | omega) ?_ | refine klen_at ?_ | refine eql_at ?_ | refine neq_at ?_ | refine lss_at ?_ | refine leq_at ?_ | refine gtr_at ?_ | refine geq_at ?_ | refine add_at (by omega) (by omega) ?_ | refine sub_at (by omega) (by omega) ?_ | refine not_at ?_ | refine kO_at ?_ | refine kprt_at rfl ?_ | refine kprtN_at rfl ?_ | refine kcap_at ?_ | refine klenStr_at ?_ | refine kN_iat ?_ | refine kN_fat ?_ | refine kIf_T (by first | exact rfl | exact decT (by omega) | exact notT (decF (by omega))) ?_ | refine kIf_F (by first | exact rfl | exact decF (by omega) | exact notF (decT (by omega))) ?_)
  rw [keq_nil_nil' ifErr]
  refine kB_at ?_
  refine kIf_F rfl ?_
  unfold f12_1
  repeat (first | refine kN_at ?_ | refine kB_at ?_ | refine kfld_of ?_ | refine kext_at rfl ?_ | refine kld_at hb11 rfl ?_ | refine kldN_at hb11 rfl (by omega) ?_ | refine kG_of (by first | exact rfl | omega) ?_ | refine klen_at ?_ | refine eql_at ?_ | refine neq_at ?_ | refine lss_at ?_ | refine leq_at ?_ | refine gtr_at ?_ | refine geq_at ?_ | refine add_at (by omega) (by omega) ?_ | refine sub_at (by omega) (by omega) ?_ | refine not_at ?_ | refine kO_at ?_ | refine kprt_at rfl ?_ | refine kprtN_at rfl ?_ | refine kcap_at ?_ | refine klenStr_at ?_ | refine kN_iat ?_ | refine kN_fat ?_ | refine kIf_T (by first | exact rfl | exact decT (by omega) | exact notT (decF (by omega))) ?_ | refine kIf_F (by first | exact rfl | exact decF (by omega) | exact notF (decT (by omega))) ?_)
  have ho1 : ∀ k t, cutL o1 w11.heap.size k = some t → ¬ atlasTag t := fun k t e et => by
    unfold cutL at e
    split at e
    · rcases Nat.lt_or_ge k w5.heap.size with hk | hk
      · rw [hl1 k hk] at e; cases e
      · obtain ⟨t', e1, e2⟩ := hr1 k hk
        rw [e] at e1; cases e1
        exact tag_roll_atlas e2 et
    · cases e
  refine kcall_of (newAt_spec (cutL o1 w11.heap.size) ho1 w11 L.length hl) ?_
  rintro v w23 ⟨bA, o2, rfl, hl2, hA, h23⟩
  have hb23 := h23.get hb11 (fun h => h)
  have m23 := m11.trans h23
  have hR1 : RollAt (cutL o1 w11.heap.size) w11 bR _ _ := hR.frame (Mod.refl (fun _ => False) _) (fun _ _ _ _ h => h) (LabEq.cut w11 o1)
  have hR2 := hR1.frame h23 (fun _ _ _ _ h => h) hl2
  have hsz5 := m5.size
  have hsz11 := h11.size
  have hsz23 := h23.size
  have ho2 : ∀ k, k < w.heap.size → o2 k = none := fun k hk => by
    rw [hl2 k (by omega)]
    unfold cutL
    rw [if_pos (by omega), hl1 k (by omega)]
  have hDlt := hD.lt
  repeat (first | refine kN_at ?_ | refine kB_at ?_ | refine kfld_of ?_ | refine kext_at rfl ?_ | refine kG_of (by first | exact rfl | omega) ?_ | refine klen_at ?_ | refine eql_at ?_ | refine neq_at ?_ | refine lss_at ?_ | refine leq_at ?_ | refine gtr_at ?_ | refine geq_at ?_ | refine add_at (by omega) (by omega) ?_ | refine sub_at (by omega) (by omega) ?_ | refine not_at ?_ | refine kO_at ?_ | refine kprt_at rfl ?_ | refine kprtN_at rfl ?_ | refine kcap_at ?_ | refine klenStr_at ?_ | refine kN_iat ?_ | refine kN_fat ?_ | refine kIf_T (by first | exact rfl | exact decT (by omega) | exact notT (decF (by omega))) ?_ | refine kIf_F (by first | exact rfl | exact decF (by omega) | exact notF (decT (by omega))) ?_)
  rw [keq_nil_nil' ifErr]
  refine kB_at ?_
  refine kIf_F rfl ?_
  have fin : ∀ (bsc : Nat) (wy : World) (ca : Option Addr) (cc : Nat) (rv : Value), Same w23 wy → blk wy bsc = some (.cells #[.slice ca L.length cc, rv] 34) → SlIs wy ca L.length 7 (L.flatMap Comp.cells) → (∀ k f, ca = some ⟨k, f, none⟩ → w23.heap.size ≤ k ∧ k < wy.heap.size) → rv.oneCell' = true →
      f12_3 (.int .i64 most) (.pointer (some ⟨bR, 0, none⟩)) (ptrV bA) (.pointer (some ⟨bsc, 0, none⟩)) (fun v w' => ∃ b, v = .tuple #[ptrV b, .nilIface] ∧ ∃ o p, StoreP o w' b p (newS L most) ∧ (∀ k, k < w.heap.size → o k = none) ∧ (∀ k, w'.heap.size ≤ k → o k = none) ∧ Same w w') wy := by
    intro bsc wy ca cc rv hwy hbsc hca hcf hrv
    have hszy := hwy.size
    unfold f12_3
    have hbscd : blk wy.drew bsc = _ := hbsc
    repeat (first | refine kN_at ?_ | refine kB_at ?_ | refine kfld_of ?_ | refine kext_at rfl ?_ | refine kld_at hbscd rfl ?_ | refine kldN_at hbscd rfl (by omega) ?_ | refine kG_of (by first | exact rfl | omega) ?_ | refine klen_at ?_ | refine eql_at ?_ | refine neq_at ?_ | refine lss_at ?_ | refine leq_at ?_ | refine gtr_at ?_ | refine geq_at ?_ | refine add_at (by omega) (by omega) ?_ | refine sub_at (by omega) (by omega) ?_ | refine not_at ?_ | refine kO_at ?_ | refine kprt_at rfl ?_ | refine kprtN_at rfl ?_ | refine kcap_at ?_ | refine klenStr_at ?_ | refine kN_iat ?_ | refine kN_fat ?_ | refine kIf_T (by first | exact rfl | exact decT (by omega) | exact notT (decF (by omega))) ?_ | refine kIf_F (by first | exact rfl | exact decF (by omega) | exact notF (decT (by omega))) ?_)
    refine kmk_of (by omega) (by omega) fun w44 h44 hs44 hb44 => ?_
    have hbsc44 := h44.get hbscd (fun h => h)
    refine kG_of (kldN_at hbsc44 rfl (by omega) ⟨rfl, rfl⟩) ?_
    refine kbld_of (cs := [.pointer (some ⟨bR, 0, none⟩), .slice ca L.length cc, rv, ptrV bA, .slice none 0 0, .slice (some ⟨wy.heap.size, 0, none⟩) most most]) rfl ?_
    refine knew_of fun w47 h47 hs47 hb47 => ?_
    have hb47 : blk w47 w44.heap.size = some (.cells #[.pointer (some ⟨bR, 0, none⟩), .slice ca L.length cc, rv, ptrV bA, .slice none 0 0, .slice (some ⟨wy.heap.size, 0, none⟩) most most] 139) := hb47
    have hs44 : w44.heap.size = wy.heap.size + 1 := hs44
    have m47 : Same w23 w47 := ((hwy.trans (Mod.refl (fun _ => False) _).drew).trans h44).trans h47
    have hz : zrow (Value.agg #[.int .i64 0, .int .i64 0]).cells.toList most = (List.replicate most ((0 : Nat), (0 : Nat))).flatMap spotC := zrow_rep (F := spotC) ((0 : Nat), (0 : Nat)) most
    rw [hz] at hb44
    have hb44 : blk w44 wy.heap.size = some (.cells ((List.replicate most ((0 : Nat), (0 : Nat))).flatMap spotC).toArray 153) := hb44
    have hOs := Own.blk (h47.get hb44 (fun h => h)) (n := most) (sz := 2) (by rw [List.size_toArray, flat_len spotC 2 (fun _ => rfl), List.length_replicate]) (by simp [maxLen]; omega)
    rw [List.toList_toArray] at hOs
    generalize hbcB : (match ca with | some x => x.block | none => 0) = bcB
    have hlo : LabEq w23 o2 (newLab o2 w23.heap.size bcB wy.heap.size w44.heap.size) := fun k hk => by unfold newLab; rw [if_pos hk]
    have hl47 : newLab o2 w23.heap.size bcB wy.heap.size w44.heap.size w44.heap.size = some .store := by unfold newLab; rw [if_neg (by omega), if_pos rfl]
    have hlsp : newLab o2 w23.heap.size bcB wy.heap.size w44.heap.size wy.heap.size = some .spots := by unfold newLab; rw [if_neg (by omega), if_neg (by omega), if_pos rfl]
    have hP : StoreP (newLab o2 w23.heap.size bcB wy.heap.size w44.heap.size) w47 w44.heap.size ⟨bR, bA, ca, cc, rv, .slice none 0 0, .slice (some ⟨wy.heap.size, 0, none⟩) most most, fun _ => 0, fun _ _ => 0⟩ (newS0 L most) := {
      lab := hl47
      good := newS_good hG
      tle := by simp [newS0]
      mle := by simp [newS0]
      sle := by simp [newS0]; exact hm
      here := hb47
      roll := hR2.frame m47 (fun _ _ _ _ h => h) hlo
      atlas := hA.frame m47 (fun _ _ _ _ h => h) hlo
      sch := (hca.same (Mod.refl (fun _ => False) _).drew).same (h44.trans h47)
      schl := fun k f e => by
        have e : ca = some ⟨k, f, none⟩ := e
        obtain ⟨k1, k2⟩ := hcf k f e
        have hk : k = bcB := by rw [← hbcB, e]
        refine ⟨?_, by omega⟩
        unfold newLab
        rw [if_neg (by omega), if_neg (by omega), if_neg (by omega), if_pos hk]
      tabs := Own.nil _ _
      tabsl := fun k e => by obtain ⟨_, _, _, e⟩ := e; cases e
      spots := hOs
      spotsl := fun k e => by obtain ⟨_, _, _, e⟩ := e; cases e; exact hlsp
      tab := fun i hi => by simp [newS0] at hi }
    have hDn : newLab o2 w23.heap.size bcB wy.heap.size w44.heap.size 18 = none := by
      unfold newLab
      rw [if_pos (by omega)]
      exact ho2 _ (by omega)
    have h47' : Same w w47 := m23.trans m47
    refine kcall_of (sLay_spec (hD.same h47') hP hDn) ?_
    rintro v w49 ⟨rfl, o4, p4, hl4, hP4, hm4, hc4⟩
    have hn : ∀ k, k < w.heap.size → newLab o2 w23.heap.size bcB wy.heap.size w44.heap.size k = none := fun k hk => by
      unfold newLab
      rw [if_pos (by omega)]
      exact ho2 k hk
    have hsz47 := h47'.size
    refine ⟨w44.heap.size, rfl, o4, p4, hP4, fun k hk => by rw [hl4 k (by omega)]; exact hn k hk, hc4, h47'.trans' (hm4.mono fun k _ ⟨t, e1, _⟩ => .inr ?_)⟩
    rcases Nat.lt_or_ge k w.heap.size with hk | hk
    · rw [hn k hk] at e1; cases e1
    · exact hk
  have hbd : blk w23.drew w.heap.size = some (.cells #[.slice a L.length cp, .slice ra 0 rc] 34) := hb23
  have md : Same w23 w23.drew := (Mod.refl (fun _ => False) _).drew
  have hsd := (hs.same m23).same md
  unfold f12_2
  refine ⟨?_, ?_⟩
  · repeat (first | refine kN_at ?_ | refine kB_at ?_ | refine kfld_of ?_ | refine kext_at rfl ?_ | refine kld_at hbd rfl ?_ | refine kldN_at hbd rfl (by omega) ?_ | refine kG_of (by first | exact rfl | omega) ?_ | refine klen_at ?_ | refine eql_at ?_ | refine neq_at ?_ | refine lss_at ?_ | refine leq_at ?_ | refine gtr_at ?_ | refine geq_at ?_ | refine add_at (by omega) (by omega) ?_ | refine sub_at (by omega) (by omega) ?_ | refine not_at ?_ | refine kO_at ?_ | refine kprt_at rfl ?_ | refine kprtN_at rfl ?_ | refine kcap_at ?_ | refine klenStr_at ?_ | refine kN_iat ?_ | refine kN_fat ?_ | refine kIf_T (by first | exact rfl | exact decT (by omega) | exact notT (decF (by omega))) ?_ | refine kIf_F (by first | exact rfl | exact decF (by omega) | exact notF (decT (by omega))) ?_)
    refine kcall_of (cloneC_spec hsd (by omega)) ?_
    rintro v w33 ⟨hO, h33, hf⟩
    obtain ⟨ca, cn, cc, rfl, hcs, _⟩ := hO.is
    have hcn : cn = L.length := by
      have := hcs.1
      rw [flat_len Comp.cells 7 (fun _ => rfl)] at this
      omega
    subst hcn
    have hb33 := h33.get hbd (fun h => h)
    have hfk : ∀ k f, ca = some ⟨k, f, none⟩ → w23.heap.size ≤ k ∧ k < w33.heap.size := fun k f e => by
      have hv : vblk (.slice ca L.length cc) k := ⟨f, _, _, by rw [e]⟩
      exact ⟨hf k hv, hO.vblk_lt hv⟩
    refine ⟨?_, ?_⟩
    · repeat (first | refine kN_at ?_ | refine kB_at ?_ | refine kfld_of ?_ | refine kext_at rfl ?_ | refine kld_at hb33 rfl ?_ | refine kldN_at hb33 rfl (by omega) ?_ | refine kG_of (by first | exact rfl | omega) ?_ | refine klen_at ?_ | refine eql_at ?_ | refine neq_at ?_ | refine lss_at ?_ | refine leq_at ?_ | refine gtr_at ?_ | refine geq_at ?_ | refine add_at (by omega) (by omega) ?_ | refine sub_at (by omega) (by omega) ?_ | refine not_at ?_ | refine kO_at ?_ | refine kprt_at rfl ?_ | refine kprtN_at rfl ?_ | refine kcap_at ?_ | refine klenStr_at ?_ | refine kN_iat ?_ | refine kN_fat ?_ | refine kIf_T (by first | exact rfl | exact decT (by omega) | exact notT (decF (by omega))) ?_ | refine kIf_F (by first | exact rfl | exact decF (by omega) | exact notF (decT (by omega))) ?_)
      refine kG_of (kld_at hbd rfl ⟨rfl, rfl⟩) ?_
      refine kcall_of cloneR_spec ?_
      rintro v w37 ⟨⟨a', n', c', rfl⟩, h37⟩
      refine knew_of fun w39 h39 hs39 hb39 => ?_
      have hb39' := h39.get (h37.get hb33 (fun h => h)) (fun h => h)
      refine kG_of (kld_at hb39' rfl ⟨rfl, rfl⟩) ?_
      refine kG_of (kld_at hb39' rfl ⟨rfl, rfl⟩) ?_
      refine kbld_of (cs := [.slice ca L.length cc, .slice a' n' c']) rfl ?_
      refine kst_of (vs := [.slice ca L.length cc, .slice a' n' c']) hb39 rfl rfl rfl (by simp) (by simp) fun w41 h41 hs41 hb41 => ?_
      have m41 : Same w33 w41 := (h37.trans h39).trans' (h41.mono fun k _ e => .inr (by have := h37.size; omega))
      exact fin _ w41 ca cc _ ((md.trans h33).trans m41) hb41 (hcs.same m41) (fun k f e => by have := hfk k f e; have := m41.size; omega) rfl
    · refine knew_of fun w39 h39 hs39 hb39 => ?_
      have hb39' := h39.get hb33 (fun h => h)
      refine kG_of (kld_at hb39' rfl ⟨rfl, rfl⟩) ?_
      repeat (first | refine kN_at ?_ | refine kB_at ?_ | refine kfld_of ?_ | refine kext_at rfl ?_ | refine kld_at hb39' rfl ?_ | refine kldN_at hb39' rfl (by omega) ?_ | refine kG_of (by first | exact rfl | omega) ?_ | refine klen_at ?_ | refine eql_at ?_ | refine neq_at ?_ | refine lss_at ?_ | refine leq_at ?_ | refine gtr_at ?_ | refine geq_at ?_ | refine add_at (by omega) (by omega) ?_ | refine sub_at (by omega) (by omega) ?_ | refine not_at ?_ | refine kO_at ?_ | refine kprt_at rfl ?_ | refine kprtN_at rfl ?_ | refine kcap_at ?_ | refine klenStr_at ?_ | refine kN_iat ?_ | refine kN_fat ?_ | refine kIf_T (by first | exact rfl | exact decT (by omega) | exact notT (decF (by omega))) ?_ | refine kIf_F (by first | exact rfl | exact decF (by omega) | exact notF (decT (by omega))) ?_)
      refine kG_of (kld_at hb33 rfl ⟨rfl, rfl⟩) ?_
      refine kG_of (kld_at hbd rfl ⟨rfl, rfl⟩) ?_
      refine kcall_of cloneR_spec ?_
      rintro v w37 ⟨⟨a', n', c', rfl⟩, h37⟩
      refine kbld_of (cs := [.slice ca L.length cc, .slice a' n' c']) rfl ?_
      refine kst_of (vs := [.slice ca L.length cc, .slice a' n' c']) (h37.get hb39 (fun h => h)) rfl rfl rfl (by simp) (by simp) fun w41 h41 hs41 hb41 => ?_
      have m41 : Same w33 w41 := (h39.trans h37).trans' (h41.mono fun k _ e => .inr (by omega))
      exact fin _ w41 ca cc _ ((md.trans h33).trans m41) hb41 (hcs.same m41) (fun k f e => by have := hfk k f e; have := m41.size; omega) rfl
  · refine knew_of fun w39 h39 hs39 hb39 => ?_
    have hb39' := h39.get hbd (fun h => h)
    repeat (first | refine kN_at ?_ | refine kB_at ?_ | refine kfld_of ?_ | refine kext_at rfl ?_ | refine kld_at hb39' rfl ?_ | refine kldN_at hb39' rfl (by omega) ?_ | refine kG_of (by first | exact rfl | omega) ?_ | refine klen_at ?_ | refine eql_at ?_ | refine neq_at ?_ | refine lss_at ?_ | refine leq_at ?_ | refine gtr_at ?_ | refine geq_at ?_ | refine add_at (by omega) (by omega) ?_ | refine sub_at (by omega) (by omega) ?_ | refine not_at ?_ | refine kO_at ?_ | refine kprt_at rfl ?_ | refine kprtN_at rfl ?_ | refine kcap_at ?_ | refine klenStr_at ?_ | refine kN_iat ?_ | refine kN_fat ?_ | refine kIf_T (by first | exact rfl | exact decT (by omega) | exact notT (decF (by omega))) ?_ | refine kIf_F (by first | exact rfl | exact decF (by omega) | exact notF (decT (by omega))) ?_)
    refine kG_of (kld_at hbd rfl ⟨rfl, rfl⟩) ?_
    refine kcall_of (cloneC_spec (hsd.same h39) (by omega)) ?_
    rintro v w33 ⟨hO, h33, hf⟩
    obtain ⟨ca, cn, cc, rfl, hcs, _⟩ := hO.is
    have hcn : cn = L.length := by
      have := hcs.1
      rw [flat_len Comp.cells 7 (fun _ => rfl)] at this
      omega
    subst hcn
    have hb33 := h33.get hb39' (fun h => h)
    have hfk : ∀ k f, ca = some ⟨k, f, none⟩ → w23.heap.size ≤ k ∧ k < w33.heap.size := fun k f e => by
      have hv : vblk (.slice ca L.length cc) k := ⟨f, _, _, by rw [e]⟩
      have h1 := hf k hv
      have h2 : w23.drew.heap.size = w23.heap.size := rfl
      exact ⟨by omega, hO.vblk_lt hv⟩
    repeat (first | refine kN_at ?_ | refine kB_at ?_ | refine kfld_of ?_ | refine kext_at rfl ?_ | refine kld_at hb33 rfl ?_ | refine kldN_at hb33 rfl (by omega) ?_ | refine kG_of (by first | exact rfl | omega) ?_ | refine klen_at ?_ | refine eql_at ?_ | refine neq_at ?_ | refine lss_at ?_ | refine leq_at ?_ | refine gtr_at ?_ | refine geq_at ?_ | refine add_at (by omega) (by omega) ?_ | refine sub_at (by omega) (by omega) ?_ | refine not_at ?_ | refine kO_at ?_ | refine kprt_at rfl ?_ | refine kprtN_at rfl ?_ | refine kcap_at ?_ | refine klenStr_at ?_ | refine kN_iat ?_ | refine kN_fat ?_ | refine kIf_T (by first | exact rfl | exact decT (by omega) | exact notT (decF (by omega))) ?_ | refine kIf_F (by first | exact rfl | exact decF (by omega) | exact notF (decT (by omega))) ?_)
    refine kG_of (kld_at hb39' rfl ⟨rfl, rfl⟩) ?_
    refine kG_of (kld_at hbd rfl ⟨rfl, rfl⟩) ?_
    refine kcall_of cloneR_spec ?_
    rintro v w37 ⟨⟨a', n', c', rfl⟩, h37⟩
    refine kbld_of (cs := [.slice ca L.length cc, .slice a' n' c']) rfl ?_
    refine kst_of (vs := [.slice ca L.length cc, .slice a' n' c']) (h37.get (h33.get hb39 (fun h => h)) (fun h => h)) rfl rfl rfl (by simp) (by simp) fun w41 h41 hs41 hb41 => ?_
    have m41 : Same w23 w41 := (((md.trans h39).trans h33).trans h37).trans' (h41.mono fun k _ e => .inr (by have h2 : w23.drew.heap.size = w23.heap.size := rfl; omega))
    have m33 : Mod (fun k => k = w23.heap.size) w33 w41 := (Mod.of_same h37).trans h41
    refine fin _ w41 ca cc _ m41 hb41 (hcs.mod m33 fun k f e ek => ?_) (fun k f e => by have := hfk k f e; have := m33.size; omega) rfl
    have h1 := hf k ⟨f, _, _, by rw [e]⟩
    have h2 : w23.drew.heap.size = w23.heap.size := rfl
    omega
end Go.Proofs.YtlkpadfkmdgjcaaGreatDoor
end
section
set_option linter.unusedSimpArgs false
set_option linter.unusedVariables false
namespace Go.Proofs.YtlkpadfkmdgjcaaGreatDoor
open Go Go.Ev
set_option linter.unusedVariables false
set_option linter.unusedSimpArgs false
set_option maxRecDepth 100000
attribute [local irreducible] kO kB kStr kInt kN kG kIf kfld kld kldN kst knew kmap kbld kbldS kext kcnv klenStr klen kcap kprt kprtN kbool kint kstr keq kun ksl kix kiv kta kmk kmm ksem ksemU kextf kcallV kcallM kcall kL

theorem sSet_err {Sa : Nat → Addr} {k : Nat} {w : World} {b : Nat} {idx gen c : Int} {v3 v4 v5 : Value}
    (h : ∀ w2, Same w w2 → Meets Tryz.prog 98 #[ptrV b, entV idx gen, .int .i64 c] w2 fun v w' => ∃ x, v = .tuple #[.pointer none, .int .i64 0, x] ∧ ErrX Sa k w2.heap.size x w' ∧ Same w2 w') :
    Meets Tryz.prog 32 #[ptrV b, entV idx gen, .int .i64 c, v3, v4, v5] w fun v w' => ∃ x, v = .tuple #[zPartV, x] ∧ ErrX Sa k w.heap.size x w' ∧ Same w w' := by
  refine f32_ok ?_
  unfold f32
  refine knew_of fun w2 hm2 hs2 hb2 => ?_
  have hb2 : blk w2 w.heap.size = some (.cells #[.int .i64 idx, .int .i64 gen] 37) := hb2
  refine knew_of fun w4 hm4 hs4 hb4 => ?_
  have m4 := hm2.trans hm4
  have hb2' := hm4.get hb2 (fun h => h)
  repeat (first | refine kN_at ?_ | refine kB_at ?_ | refine kfld_of ?_ | refine kext_at rfl ?_ | refine kld_at hb2' rfl ?_ | refine kldN_at hb2' rfl (by omega) ?_ | refine kG_of (by first | exact rfl | omega) ?_ | refine klen_at ?_ | refine eql_at ?_ | refine neq_at ?_ | refine lss_at ?_ | refine leq_at ?_ | refine gtr_at ?_ | refine geq_at ?_ | refine add_at (by omega) (by omega) ?_ | refine sub_at (by omega) (by omega) ?_ | refine not_at ?_ | refine kO_at ?_ | refine kprt_at rfl ?_ | refine kprtN_at rfl ?_ | refine kcap_at ?_ | refine klenStr_at ?_ | refine kN_iat ?_ | refine kN_fat ?_ | refine kIf_T (by first | exact rfl | exact decT (by omega) | exact notT (decF (by omega))) ?_ | refine kIf_F (by first | exact rfl | exact decF (by omega) | exact notF (decT (by omega))) ?_)
  refine kcall_of (h w4 m4) ?_
  rintro v w7 ⟨x, rfl, hx, h7⟩
  have m7 := m4.trans h7
  have hb7 := h7.get hb4 (fun h => h)
  obtain ⟨t, y, rfl⟩ := hx.if
  repeat (first | refine kN_at ?_ | refine kB_at ?_ | refine kfld_of ?_ | refine kext_at rfl ?_ | refine kG_of (by first | exact rfl | omega) ?_ | refine klen_at ?_ | refine eql_at ?_ | refine neq_at ?_ | refine lss_at ?_ | refine leq_at ?_ | refine gtr_at ?_ | refine geq_at ?_ | refine add_at (by omega) (by omega) ?_ | refine sub_at (by omega) (by omega) ?_ | refine not_at ?_ | refine kO_at ?_ | refine kprt_at rfl ?_ | refine kprtN_at rfl ?_ | refine kcap_at ?_ | refine klenStr_at ?_ | refine kN_iat ?_ | refine kN_fat ?_ | refine kIf_T (by first | exact rfl | exact decT (by omega) | exact notT (decF (by omega))) ?_ | refine kIf_F (by first | exact rfl | exact decF (by omega) | exact notF (decT (by omega))) ?_)
  rw [keq_if_nil' ifErr]
  repeat (first | refine kN_at ?_ | refine kB_at ?_ | refine kfld_of ?_ | refine kext_at rfl ?_ | refine kG_of (by first | exact rfl | omega) ?_ | refine klen_at ?_ | refine eql_at ?_ | refine neq_at ?_ | refine lss_at ?_ | refine leq_at ?_ | refine gtr_at ?_ | refine geq_at ?_ | refine add_at (by omega) (by omega) ?_ | refine sub_at (by omega) (by omega) ?_ | refine not_at ?_ | refine kO_at ?_ | refine kprt_at rfl ?_ | refine kprtN_at rfl ?_ | refine kcap_at ?_ | refine klenStr_at ?_ | refine kN_iat ?_ | refine kN_fat ?_ | refine kIf_T (by first | exact rfl | exact decT (by omega) | exact notT (decF (by omega))) ?_ | refine kIf_F (by first | exact rfl | exact decF (by omega) | exact notF (decT (by omega))) ?_)
  refine kbld_of (cs := [.int .i64 0, .int .i64 0, .int .i64 0, .int .i64 0, .int .i64 0, .int .i64 0]) rfl ?_
  refine kst_of (vs := [.int .i64 0, .int .i64 0, .int .i64 0, .int .i64 0, .int .i64 0, .int .i64 0]) hb7 rfl rfl rfl (by simp) (by simp) fun w20 h20 hs20 hb20 => ?_
  have hb20 : blk w20 w2.heap.size = some (.cells #[.int .i64 0, .int .i64 0, .int .i64 0, .int .i64 0, .int .i64 0, .int .i64 0] 49) := hb20
  repeat (first | refine kN_at ?_ | refine kB_at ?_ | refine kfld_of ?_ | refine kext_at rfl ?_ | refine kld_at hb20 rfl ?_ | refine kldN_at hb20 rfl (by omega) ?_ | refine kG_of (by first | exact rfl | omega) ?_ | refine klen_at ?_ | refine eql_at ?_ | refine neq_at ?_ | refine lss_at ?_ | refine leq_at ?_ | refine gtr_at ?_ | refine geq_at ?_ | refine add_at (by omega) (by omega) ?_ | refine sub_at (by omega) (by omega) ?_ | refine not_at ?_ | refine kO_at ?_ | refine kprt_at rfl ?_ | refine kprtN_at rfl ?_ | refine kcap_at ?_ | refine klenStr_at ?_ | refine kN_iat ?_ | refine kN_fat ?_ | refine kIf_T (by first | exact rfl | exact decT (by omega) | exact notT (decF (by omega))) ?_ | refine kIf_F (by first | exact rfl | exact decF (by omega) | exact notF (decT (by omega))) ?_)
  exact ⟨_, rfl, (hx.mod h20 fun k h1 h2 e => by omega).mono (by omega), m7.trans' (h20.mono fun k _ e => .inr (by omega))⟩
/-! ### A store that a function made for itself -/
structure Cur (w0 : World) (o : Lab) (w : World) (b : Nat) (p : Ptrs) (S : SM) (t : Nat) : Prop where
  sp : StoreP o w b p S
  gs : GS S t
  lo : ∀ k, k < w0.heap.size → o k = none
  hi : ∀ k, w.heap.size ≤ k → o k = none
  same : Same w0 w
theorem Cur.loc {w0 : World} {o : Lab} {w w2 : World} {b : Nat} {p : Ptrs} {S : SM} {t : Nat} (h : Cur w0 o w b p S t) (m : Same w w2) : Cur w0 o w2 b p S t :=
  ⟨h.sp.same m, h.gs, h.lo, fun k hk => h.hi k (Nat.le_trans m.size hk), h.same.trans m⟩
theorem Cur.turn {w0 : World} {o : Lab} {w w' : World} {b : Nat} {p : Ptrs} {S S' : SM} {t t' : Nat} (h : Cur w0 o w b p S t) (T : Turned o w b S' w') (hG : GS S' t') : ∃ o' p', Cur w0 o' w' b p' S' t' ∧ LabEq w o o' ∧ Mod (fun k => o k ≠ none) w w' := by
  obtain ⟨o', p', hl, hP, hm, hc⟩ := T
  have hs := h.same.size
  have hm' : Mod (fun k => o k ≠ none) w w' := hm.mono fun k _ ⟨t, e, _⟩ => by rw [e]; simp
  refine ⟨o', p', ⟨hP, hG, fun k hk => by rw [hl k (by omega)]; exact h.lo k hk, hc, h.same.trans' (hm'.mono fun k _ e => .inr ?_)⟩, hl, hm'⟩
  rcases Nat.lt_or_ge k w0.heap.size with hk | hk
  · exact absurd (h.lo k hk) e
  · exact hk
theorem Just.len {L : List (Int × Int)} {P : Nat → Int → Prop} (h : Just L P) {l : List (Int × Int)} (hn : l.Nodup) (hl : ∀ (i : Nat) (g : Int), ((i : Int), g) ∈ l ↔ P i g) (hp : ∀ e ∈ l, 0 ≤ e.1) : L.length = l.length := by
  refine ((List.perm_ext_iff_of_nodup h.1 hn).2 fun e => ?_).length_eq
  rw [h.2.2 e]
  constructor
  · rintro ⟨i, g, rfl, hP⟩; exact (hl i g).2 hP
  · intro he
    have h0 := hp e he
    refine ⟨e.1.toNat, e.2, ?_, ?_⟩
    · rw [Int.toNat_of_nonneg h0]
    · rw [← hl, Int.toNat_of_nonneg h0]; exact he
end Go.Proofs.YtlkpadfkmdgjcaaGreatDoor
end
section
set_option linter.unusedSimpArgs false
set_option linter.unusedVariables false
namespace Go.Proofs.YtlkpadfkmdgjcaaGreatDoor
open Go Go.Ev
set_option linter.unusedVariables false
set_option maxRecDepth 100000

/-! pasodoble/pasodoblelaw09.StoreMatches -/
def f3_5 (x0 : Value) (x1 : Value) (x2 : Value) (x7 : Value) (x9 : Value) (J7 : Value → World → Prop) (Q : Value → World → Prop) (w : World) : Prop :=
  kint .i64 .add x9 (.int .i64 1) fun v31 =>
  J7 v31 w

def f3_4 (x0 : Value) (x1 : Value) (x2 : Value) (x7 : Value) (x9 : Value) (J7 : Value → World → Prop) (Q : Value → World → Prop) (w : World) : Prop :=
  kix (some (.slice 24)) (some 1) x0 x9 fun v24 =>
  kld v24 w fun v25 =>
  kint .u32 .and v25 (.int .u32 255) fun v26 =>
  kcall Tryz.prog 15 #[v26, x9] w fun v27 w28 =>
  kcall Tryz.prog 14 #[x7, v27] w28 fun v29 w30 =>
  f3_5 x0 x1 x2 x7 x9 J7 Q w30

def f3_10 (x0 : Value) (x1 : Value) (x2 : Value) (x7 : Value) (x10 : Value) (x11 : Value) (x12 : Value) (J13 : Value → Value → World → Prop) (Q : Value → World → Prop) (w : World) : Prop :=
  kint .i64 .add x12 (.int .i64 1) fun v45 =>
  J13 x11 v45 w

def f3_13 (x0 : Value) (x1 : Value) (x2 : Value) (x7 : Value) (x10 : Value) (x11 : Value) (x12 : Value) (J13 : Value → Value → World → Prop) (Q : Value → World → Prop) (w : World) : Prop :=
  kint .i64 .add x11 (.int .i64 1) fun v54 =>
  f3_10 x0 x1 x2 x7 x10 v54 x12 J13 Q w

def f3_12 (x0 : Value) (x1 : Value) (x2 : Value) (x7 : Value) (x10 : Value) (x11 : Value) (x12 : Value) (x86 : Value) (J13 : Value → Value → World → Prop) (Q : Value → World → Prop) (w : World) : Prop :=
  kB x86 fun b55 => kIf b55
  (Q (.bool false) w)
  (f3_13 x0 x1 x2 x7 x10 x11 x12 J13 Q w)

def f3_11 (x0 : Value) (x1 : Value) (x2 : Value) (x7 : Value) (x10 : Value) (x11 : Value) (x12 : Value) (J13 : Value → Value → World → Prop) (Q : Value → World → Prop) (w : World) : Prop :=
  klen x10 fun v46 =>
  kint .i64 .geq x11 v46 fun v48 =>
  kB v48 fun b49 => kIf (!b49)
  (kix (some (.slice 37)) (some 2) x10 x11 fun v50 =>
  kfld 0 v50 fun v51 =>
  kld v51 w fun v52 =>
  kint .i64 .neq v52 x12 fun v53 =>
  f3_12 x0 x1 x2 x7 x10 x11 x12 v53 J13 Q w)
  (f3_12 x0 x1 x2 x7 x10 x11 x12 (.bool true) J13 Q w)

def f3_9 (x0 : Value) (x1 : Value) (x2 : Value) (x7 : Value) (x10 : Value) (x11 : Value) (x12 : Value) (x73 : Value) (J13 : Value → Value → World → Prop) (Q : Value → World → Prop) (w : World) : Prop :=
  kB x73 fun b56 => kIf b56
  (f3_10 x0 x1 x2 x7 x10 x11 x12 J13 Q w)
  (f3_11 x0 x1 x2 x7 x10 x11 x12 J13 Q w)

def f3_8 (x0 : Value) (x1 : Value) (x2 : Value) (x7 : Value) (x10 : Value) (x11 : Value) (x12 : Value) (J13 : Value → Value → World → Prop) (Q : Value → World → Prop) (w : World) : Prop :=
  kix (some (.slice 24)) (some 1) x0 x12 fun v37 =>
  kld v37 w fun v38 =>
  kint .u32 .and v38 (.int .u32 255) fun v39 =>
  kint .u32 .andNot x1 v39 fun v40 =>
  kint .u32 .neq v40 (.int .u32 0) fun v41 =>
  kB v41 fun b42 => kIf (!b42)
  (kint .u32 .and v39 x2 fun v43 =>
  kint .u32 .neq v43 (.int .u32 0) fun v44 =>
  f3_9 x0 x1 x2 x7 x10 x11 x12 v44 J13 Q w)
  (f3_9 x0 x1 x2 x7 x10 x11 x12 (.bool true) J13 Q w)

def f3_14 (x0 : Value) (x7 : Value) (x10 : Value) (x11 : Value) (Q : Value → World → Prop) (w : World) : Prop :=
  klen x10 fun v57 =>
  kint .i64 .eql x11 v57 fun v59 =>
  kB v59 fun b60 => kIf b60
  (kcall Tryz.prog 17 #[x7] w fun v61 w62 =>
  klen x0 fun v63 =>
  kint .i64 .eql v61 v63 fun v65 =>
  Q v65 w62)
  (Q (.bool false) w)

def f3_7 (x11 : Value) (x12 : Value) (x0 : Value) (x1 : Value) (x2 : Value) (x7 : Value) (x10 : Value) (J13 : Value → Value → World → Prop) (Q : Value → World → Prop) (w : World) : Prop :=
  klen x0 fun v34 =>
  kint .i64 .lss x12 v34 fun v36 =>
  kB v36 fun b66 => kIf b66
  (f3_8 x0 x1 x2 x7 x10 x11 x12 J13 Q w)
  (f3_14 x0 x7 x10 x11 Q w)

def f3_6 (x0 : Value) (x1 : Value) (x2 : Value) (x7 : Value) (Q : Value → World → Prop) (w : World) : Prop :=
  kcall Tryz.prog 16 #[x7, x1, x2] w fun v32 w33 =>
  kL fun (I : Value → Value → World → Prop) (μ : Value → Value → World → Nat) => I (.int .i64 0) (.int .i64 0) w33 ∧ ∀ (x11 x12 : Value) (w1 : World), I x11 x12 w1 →
  f3_7 x11 x12 x0 x1 x2 x7 v32 (fun y11 y12 w2 => I y11 y12 w2 ∧ μ y11 y12 w2 < μ x11 x12 w1) Q w1

def f3_3 (x9 : Value) (x0 : Value) (x1 : Value) (x2 : Value) (x7 : Value) (J7 : Value → World → Prop) (Q : Value → World → Prop) (w : World) : Prop :=
  klen x0 fun v21 =>
  kint .i64 .lss x9 v21 fun v23 =>
  kB v23 fun b67 => kIf b67
  (f3_4 x0 x1 x2 x7 x9 J7 Q w)
  (f3_6 x0 x1 x2 x7 Q w)

def f3_2 (x0 : Value) (x1 : Value) (x2 : Value) (x7 : Value) (Q : Value → World → Prop) (w : World) : Prop :=
  kL fun (I : Value → World → Prop) (μ : Value → World → Nat) => I (.int .i64 0) w ∧ ∀ (x9 : Value) (w1 : World), I x9 w1 →
  f3_3 x9 x0 x1 x2 x7 (fun y9 w2 => I y9 w2 ∧ μ y9 w2 < μ x9 w1) Q w1

def f3_1 (x0 : Value) (x1 : Value) (x2 : Value) (x7 : Value) (x8 : Value) (x31 : Value) (Q : Value → World → Prop) (w : World) : Prop :=
  kB x31 fun b68 => kIf b68
  (keq Tryz.prog .eql 28 false true x8 .nilIface w fun v19 w20 =>
  Q v19 w20)
  (f3_2 x0 x1 x2 x7 Q w)

def f3_0 (x0 : Value) (x1 : Value) (x2 : Value) (Q : Value → World → Prop) (w : World) : Prop :=
  kcall Tryz.prog 13 #[] w fun v4 w5 =>
  kcall Tryz.prog 12 #[v4, (.int .i64 64)] w5 fun v6 w7 =>
  kext v6 0 fun v8 =>
  kext v6 1 fun v9 =>
  keq Tryz.prog .eql 26 false true v8 (.pointer none) w7 fun v10 w11 =>
  kB v10 fun b12 => kIf (!b12)
  (keq Tryz.prog .neq 28 false true v9 .nilIface w11 fun v13 w14 =>
  kB v13 fun b15 => kIf (!b15)
  (klen x0 fun v16 =>
  kint .i64 .gtr v16 (.int .i64 60) fun v18 =>
  f3_1 x0 x1 x2 v8 v9 v18 Q w14)
  (f3_1 x0 x1 x2 v8 v9 (.bool true) Q w14))
  (f3_1 x0 x1 x2 v8 v9 (.bool true) Q w11)

def f3 (x0 : Value) (x1 : Value) (x2 : Value) (Q : Value → World → Prop) (w : World) : Prop :=
  kcall Tryz.prog 11 #[] w fun v1 w2 =>
  kun .not (some .bool) v1 fun v3 =>
  kB v3 fun b69 => kIf b69
  (Q (.bool false) w2)
  (f3_0 x0 x1 x2 Q w2)

/-! pasodoble/pasodoblelaw09.StoreMoves -/
def f4_9 (x7 : Value) (x10 : Value) (x11 : Value) (x19 : Value) (Q : Value → World → Prop) (w : World) : Prop :=
  kldN 2 x11 w fun v99 =>
  kcall Tryz.prog 24 #[x7, v99, (.int .i64 99)] w fun v100 w101 =>
  kext v100 0 fun v102 =>
  kext v100 1 fun v103 =>
  knew #[(.int .i64 0), (.int .i64 0), (.int .i64 0), (.int .i64 0), (.int .i64 0), (.int .i64 0)] 49 w101 fun v104 w105 =>
  kst 6 v104 v102 w105 fun w106 =>
  kcall Tryz.prog 25 #[x19, x10] w106 fun v107 w108 =>
  kB v107 fun b109 => kIf b109
  (kld (.pointer (some ⟨1, 0, none⟩)) w108 fun v110 =>
  kcall Tryz.prog 20 #[v103, v110] w108 fun v111 w112 =>
  Q v111 w112)
  (Q (.bool false) w108)

def f4_8 (x7 : Value) (x10 : Value) (x11 : Value) (Q : Value → World → Prop) (w : World) : Prop :=
  kldN 2 x11 w fun v94 =>
  kcall Tryz.prog 21 #[x7, v94] w fun v95 w96 =>
  kext v95 0 fun v97 =>
  kext v95 1 fun v98 =>
  f4_9 x7 x10 x11 v97 Q w96

def f4_7 (x0 : Value) (x7 : Value) (x9 : Value) (x10 : Value) (x11 : Value) (x17 : Value) (Q : Value → World → Prop) (w : World) : Prop :=
  kldN 2 x11 w fun v81 =>
  kcall Tryz.prog 21 #[x7, v81] w fun v82 w83 =>
  kext v82 0 fun v84 =>
  kext v82 1 fun v85 =>
  kcall Tryz.prog 19 #[x0, x9] w83 fun v86 w87 =>
  kB v86 fun b114 => kIf b114
  (kldN 2 x11 w87 fun v88 =>
  kldN 6 x17 w87 fun v89 =>
  kcall Tryz.prog 18 #[x7, v88, v89] w87 fun v90 w91 =>
  keq Tryz.prog .neq 28 false true v90 .nilIface w91 fun v92 w93 =>
  kB v92 fun b113 => kIf b113
  (Q (.bool false) w93)
  (f4_8 x7 x10 x11 Q w93))
  (f4_9 x7 x10 x11 v84 Q w87)

def f4_6 (x0 : Value) (x7 : Value) (x9 : Value) (x10 : Value) (x11 : Value) (x17 : Value) (x107 : Value) (Q : Value → World → Prop) (w : World) : Prop :=
  kB x107 fun b115 => kIf b115
  (Q (.bool false) w)
  (f4_7 x0 x7 x9 x10 x11 x17 Q w)

def f4_5 (x0 : Value) (x7 : Value) (x9 : Value) (x10 : Value) (x11 : Value) (x13 : Value) (Q : Value → World → Prop) (w : World) : Prop :=
  kldN 2 x11 w fun v62 =>
  kcall Tryz.prog 24 #[x7, v62, x9] w fun v63 w64 =>
  kext v63 0 fun v65 =>
  kext v63 1 fun v66 =>
  knew #[(.int .i64 0), (.int .i64 0), (.int .i64 0), (.int .i64 0), (.int .i64 0), (.int .i64 0)] 49 w64 fun v67 w68 =>
  kst 6 v67 v65 w68 fun w69 =>
  keq Tryz.prog .neq 28 false true v66 .nilIface w69 fun v70 w71 =>
  kB v70 fun b72 => kIf (!b72)
  (kcall Tryz.prog 19 #[x0, x9] w71 fun v73 w74 =>
  kun .not (some .bool) v73 fun v75 =>
  kB v75 fun b76 => kIf b76
  (kldN 6 v67 w74 fun v77 =>
  kldN 6 x13 w74 fun v78 =>
  keq Tryz.prog .neq 49 false false v77 v78 w74 fun v79 w80 =>
  f4_6 x0 x7 x9 x10 x11 v67 v79 Q w80)
  (f4_6 x0 x7 x9 x10 x11 v67 (.bool false) Q w74))
  (f4_6 x0 x7 x9 x10 x11 v67 (.bool true) Q w71)

def f4_4 (x0 : Value) (x7 : Value) (x9 : Value) (x10 : Value) (x11 : Value) (x13 : Value) (Q : Value → World → Prop) (w : World) : Prop :=
  kldN 2 x11 w fun v50 =>
  kcall Tryz.prog 21 #[x7, v50] w fun v51 w52 =>
  kext v51 0 fun v53 =>
  kext v51 1 fun v54 =>
  klen v53 fun v55 =>
  kcall Tryz.prog 23 #[x0, x9] w52 fun v57 w58 =>
  kcall Tryz.prog 22 #[v57] w58 fun v59 w60 =>
  kint .i64 .neq v55 v59 fun v61 =>
  kB v61 fun b116 => kIf b116
  (Q (.bool false) w60)
  (f4_5 x0 x7 x9 x10 x11 x13 Q w60)

def f4_3 (x0 : Value) (x7 : Value) (x9 : Value) (x10 : Value) (x11 : Value) (x13 : Value) (x74 : Value) (Q : Value → World → Prop) (w : World) : Prop :=
  kB x74 fun b117 => kIf b117
  (Q (.bool false) w)
  (f4_4 x0 x7 x9 x10 x11 x13 Q w)

def f4_2 (x0 : Value) (x1 : Value) (x2 : Value) (x7 : Value) (Q : Value → World → Prop) (w : World) : Prop :=
  kint .u32 .and x0 (.int .u32 255) fun v15 =>
  kcnv .u64 x1 fun v16 =>
  kint .u64 .rem v16 (.int .u64 8) fun v17 =>
  kcnv .i64 v17 fun v18 =>
  kcall Tryz.prog 15 #[v15, (.int .i64 50)] w fun v19 w20 =>
  kcall Tryz.prog 14 #[x7, v19] w20 fun v21 w22 =>
  kext v21 0 fun v23 =>
  kext v21 1 fun v24 =>
  knew #[(.int .i64 0), (.int .i64 0)] 37 w22 fun v25 w26 =>
  kst 2 v25 v23 w26 fun w27 =>
  kbld [(.int .i64 0), (.int .i64 0), (.int .i64 0), (.int .i64 0)] [(0, 1, x2)] fun v28 =>
  kbld [(.int .i64 0), (.int .i64 0), (.int .i64 0), (.int .i64 0), (.int .i64 0), (.int .i64 0)] [(0, 1, v18), (1, 4, v28), (5, 1, (.int .i64 7))] fun v29 =>
  knew #[(.int .i64 0), (.int .i64 0), (.int .i64 0), (.int .i64 0), (.int .i64 0), (.int .i64 0)] 49 w27 fun v30 w31 =>
  kst 6 v30 v29 w31 fun w32 =>
  kldN 2 v25 w32 fun v33 =>
  kldN 6 v30 w32 fun v34 =>
  kcall Tryz.prog 18 #[x7, v33, v34] w32 fun v35 w36 =>
  kcall Tryz.prog 19 #[v15, v18] w36.drew fun v37 w38 =>
  kld (.pointer (some ⟨0, 0, none⟩)) w38 fun v39 =>
  kG (w38 = w38) <|
  kG (kld (.pointer (some ⟨0, 0, none⟩)) w36.drew fun v118 =>
  v118 = v39 ∧ w36.drew = w36.drew) <|
  kcall Tryz.prog 20 #[v35, v39] w38 fun v40 w41 =>
  kbool .neq v37 v40 fun v42 =>
  kB v42 fun b43 => kIf (!b43)
  (kcall Tryz.prog 19 #[v15, v18] w41 fun v44 w45 =>
  kun .not (some .bool) v44 fun v46 =>
  kB v46 fun b47 => kIf b47
  (keq Tryz.prog .neq 28 false true v35 .nilIface w45 fun v48 w49 =>
  kG (w49 = w45) <|
  f4_3 v15 x7 v18 v19 v25 v30 v48 Q w49)
  (f4_3 v15 x7 v18 v19 v25 v30 (.bool false) Q w45))
  (f4_3 v15 x7 v18 v19 v25 v30 (.bool true) Q w41)

def f4_1 (x0 : Value) (x1 : Value) (x2 : Value) (x7 : Value) (x35 : Value) (Q : Value → World → Prop) (w : World) : Prop :=
  kB x35 fun b119 => kIf b119
  (Q (.bool false) w)
  (f4_2 x0 x1 x2 x7 Q w)

def f4_0 (x0 : Value) (x1 : Value) (x2 : Value) (Q : Value → World → Prop) (w : World) : Prop :=
  kcall Tryz.prog 13 #[] w fun v4 w5 =>
  kcall Tryz.prog 12 #[v4, (.int .i64 3)] w5 fun v6 w7 =>
  kext v6 0 fun v8 =>
  kext v6 1 fun v9 =>
  keq Tryz.prog .eql 26 false true v8 (.pointer none) w7 fun v10 w11 =>
  kB v10 fun b12 => kIf (!b12)
  (keq Tryz.prog .neq 28 false true v9 .nilIface w11 fun v13 w14 =>
  f4_1 x0 x1 x2 v8 v13 Q w14)
  (f4_1 x0 x1 x2 v8 (.bool true) Q w11)

def f4 (x0 : Value) (x1 : Value) (x2 : Value) (Q : Value → World → Prop) (w : World) : Prop :=
  kcall Tryz.prog 11 #[] w fun v1 w2 =>
  kun .not (some .bool) v1 fun v3 =>
  kB v3 fun b120 => kIf b120
  (Q (.bool false) w2)
  (f4_0 x0 x1 x2 Q w2)

/-! pasodoble/pasodoblelaw09.StoreFull -/
def f5_6 (x1 : Value) (x5 : Value) (x6 : Value) (x8 : Value) (x9 : Value) (J9 : Value → Value → World → Prop) (Q : Value → World → Prop) (w : World) : Prop :=
  kint .i64 .add x9 (.int .i64 1) fun v38 =>
  J9 x8 v38 w

def f5_5 (x1 : Value) (x5 : Value) (x6 : Value) (x8 : Value) (x9 : Value) (x10 : Value) (J9 : Value → Value → World → Prop) (Q : Value → World → Prop) (w : World) : Prop :=
  kldN 2 x10 w fun v33 =>
  kbldS [(.int .i64 0), (.int .i64 0)] 1 [(0, 2, v33)] 37 w fun v34 w35 =>
  ksem Tryz.prog (Builtin.append_ #[42, 42] 0 #[x8, v34]) w35 fun v36 w37 =>
  f5_6 x1 x5 x6 v36 x9 J9 Q w37

def f5_4 (x1 : Value) (x5 : Value) (x6 : Value) (x8 : Value) (x9 : Value) (J9 : Value → Value → World → Prop) (Q : Value → World → Prop) (w : World) : Prop :=
  kint .u32 .and x1 (.int .u32 255) fun v21 =>
  kcall Tryz.prog 15 #[v21, x9] w fun v22 w23 =>
  kcall Tryz.prog 14 #[x6, v22] w23 fun v24 w25 =>
  kext v24 0 fun v26 =>
  kext v24 1 fun v27 =>
  knew #[(.int .i64 0), (.int .i64 0)] 37 w25 fun v28 w29 =>
  kst 2 v28 v26 w29 fun w30 =>
  keq Tryz.prog .neq 28 false true v27 .nilIface w30 fun v31 w32 =>
  kB v31 fun b39 => kIf b39
  (Q (.bool false) w32)
  (f5_5 x1 x5 x6 x8 x9 v28 J9 Q w32)

def f5_11 (Q : Value → World → Prop) (w : World) : Prop :=
  kcall Tryz.prog 14 #[(.pointer none), (.slice none 0 0)] w fun v134 w135 =>
  kext v134 0 fun v136 =>
  kext v134 1 fun v137 =>
  knew #[(.int .i64 0), (.int .i64 0)] 37 w135 fun v138 w139 =>
  kst 2 v138 v136 w139 fun w140 =>
  kbld [(.int .i64 0), (.int .i64 0)] [] fun v141 =>
  kcall Tryz.prog 21 #[(.pointer none), v141] w140 fun v142 w143 =>
  kext v142 0 fun v144 =>
  kext v142 1 fun v145 =>
  kld (.pointer (some ⟨4, 0, none⟩)) w143 fun v146 =>
  kcall Tryz.prog 20 #[v137, v146] w143 fun v147 w148 =>
  kB v147 fun b149 => kIf b149
  (kld (.pointer (some ⟨4, 0, none⟩)) w148 fun v150 =>
  kcall Tryz.prog 20 #[v145, v150] w148 fun v151 w152 =>
  kB v151 fun b153 => kIf b153
  (kbld [(.int .i64 0), (.int .i64 0)] [] fun v154 =>
  kcall Tryz.prog 29 #[(.pointer none), v154] w152 fun v155 w156 =>
  kun .not (some .bool) v155 fun v157 =>
  kB v157 fun b158 => kIf b158
  (kcall Tryz.prog 17 #[(.pointer none)] w156 fun v159 w160 =>
  kcall Tryz.prog 26 #[(.pointer none)] w160 fun v161 w162 =>
  kint .i64 .add v159 v161 fun v163 =>
  kcall Tryz.prog 16 #[(.pointer none), (.int .u32 0), (.int .u32 0)] w162 fun v164 w165 =>
  klen v164 fun v166 =>
  kint .i64 .add v163 v166 fun v168 =>
  kcall Tryz.prog 30 #[(.pointer none), (.int .i64 0), (.int .i64 0)] w165 fun v169 w170 =>
  klen v169 fun v171 =>
  kint .i64 .add v168 v171 fun v173 =>
  kint .i64 .eql v173 (.int .i64 0) fun v174 =>
  Q v174 w170)
  (Q (.bool false) w156))
  (Q (.bool false) w152))
  (Q (.bool false) w148)

def f5_10 (x177 : Value) (Q : Value → World → Prop) (w : World) : Prop :=
  kB x177 fun b175 => kIf b175
  (Q (.bool false) w)
  (f5_11 Q w)

def f5_9 (x1 : Value) (x5 : Value) (x6 : Value) (x8 : Value) (Q : Value → World → Prop) (w : World) : Prop :=
  kint .i64 .gtr x5 (.int .i64 0) fun v64 =>
  kB v64 fun b176 => kIf b176
  (kint .i64 .quo x5 (.int .i64 2) fun v65 =>
  kix (some (.slice 37)) (some 2) x8 v65 fun v66 =>
  kldN 2 v66 w fun v67 =>
  kcall Tryz.prog 27 #[x6, v67] w fun v68 w69 =>
  kext v68 0 fun v70 =>
  kext v68 1 fun v71 =>
  kint .i64 .quo x5 (.int .i64 2) fun v72 =>
  kix (some (.slice 37)) (some 2) x8 v72 fun v73 =>
  kldN 2 v73 w69 fun v74 =>
  kcall Tryz.prog 27 #[x6, v74] w69 fun v75 w76 =>
  kext v75 0 fun v77 =>
  kext v75 1 fun v78 =>
  kint .i64 .quo x5 (.int .i64 2) fun v79 =>
  kix (some (.slice 37)) (some 2) x8 v79 fun v80 =>
  kldN 2 v80 w76 fun v81 =>
  kcall Tryz.prog 28 #[x6, v81, (.int .i64 0)] w76 fun v82 w83 =>
  kext v82 0 fun v84 =>
  kext v82 1 fun v85 =>
  knew #[(.int .i64 0), (.int .i64 0), (.int .i64 0), (.int .i64 0), (.int .i64 0), (.int .i64 0)] 49 w83 fun v86 w87 =>
  kst 6 v86 v84 w87 fun w88 =>
  kcall Tryz.prog 14 #[x6, (.slice none 0 0)] w88 fun v89 w90 =>
  kext v89 0 fun v91 =>
  kext v89 1 fun v92 =>
  knew #[(.int .i64 0), (.int .i64 0)] 37 w90 fun v93 w94 =>
  kst 2 v93 v91 w94 fun w95 =>
  keq Tryz.prog .neq 28 false true v71 .nilIface w95.drew fun v96 w97 =>
  kG (w97 = w95.drew) <|
  kB v96 fun b98 => kIf (!b98)
  (kint .u32 .and x1 (.int .u32 255) fun v99 =>
  kint .i64 .quo x5 (.int .i64 2) fun v100 =>
  kcall Tryz.prog 15 #[v99, v100] w97 fun v101 w102 =>
  kcall Tryz.prog 25 #[v70, v101] w102 fun v103 w104 =>
  kun .not (some .bool) v103 fun v105 =>
  kB v105 fun b106 => kIf (!b106)
  (kld (.pointer (some ⟨3, 0, none⟩)) w104 fun v107 =>
  kG (w104 = w104) <|
  kcall Tryz.prog 20 #[v78, v107] w104 fun v108 w109 =>
  kun .not (some .bool) v108 fun v110 =>
  kB v110 fun b111 => kIf (!b111)
  (kld (.pointer (some ⟨3, 0, none⟩)) w109 fun v112 =>
  kG (w109 = w109) <|
  kcall Tryz.prog 20 #[v85, v112] w109 fun v113 w114 =>
  kun .not (some .bool) v113 fun v115 =>
  kB v115 fun b116 => kIf (!b116)
  (keq Tryz.prog .neq 28 false true v92 .nilIface w114 fun v117 w118 =>
  kG (w118 = w114) <|
  kB v117 fun b119 => kIf (!b119)
  (kldN 2 v93 w118 fun v120 =>
  kG (w118 = w118) <|
  kint .i64 .quo x5 (.int .i64 2) fun v121 =>
  kix (some (.slice 37)) (some 2) x8 v121 fun v122 =>
  kldN 2 v122 w118 fun v123 =>
  kG (w118 = w118) <|
  keq Tryz.prog .eql 37 false false v120 v123 w118 fun v124 w125 =>
  kG (w125 = w118) <|
  kB v124 fun b126 => kIf (!b126)
  (kfld 0 v93 fun v127 =>
  kld v127 w125 fun v128 =>
  kG (w125 = w125) <|
  kint .i64 .quo x5 (.int .i64 2) fun v129 =>
  kix (some (.slice 37)) (some 2) x8 v129 fun v130 =>
  kfld 0 v130 fun v131 =>
  kld v131 w125 fun v132 =>
  kG (w125 = w125) <|
  kint .i64 .neq v128 v132 fun v133 =>
  f5_10 v133 Q w125)
  (f5_10 (.bool true) Q w125))
  (f5_10 (.bool true) Q w118))
  (f5_10 (.bool true) Q w114))
  (f5_10 (.bool true) Q w109))
  (f5_10 (.bool true) Q w104))
  (f5_10 (.bool true) Q w97))
  (f5_11 Q w)

def f5_8 (x1 : Value) (x5 : Value) (x6 : Value) (x8 : Value) (x92 : Value) (Q : Value → World → Prop) (w : World) : Prop :=
  kB x92 fun b177 => kIf b177
  (Q (.bool false) w)
  (f5_9 x1 x5 x6 x8 Q w)

def f5_7 (x1 : Value) (x5 : Value) (x6 : Value) (x8 : Value) (Q : Value → World → Prop) (w : World) : Prop :=
  kcall Tryz.prog 26 #[x6] w fun v40 w41 =>
  kint .u32 .andNot (.int .u32 255) x1 fun v42 =>
  kcall Tryz.prog 15 #[v42, (.int .i64 0)] w41 fun v43 w44 =>
  kcall Tryz.prog 14 #[x6, v43] w44 fun v45 w46 =>
  kext v45 0 fun v47 =>
  kext v45 1 fun v48 =>
  knew #[(.int .i64 0), (.int .i64 0)] 37 w46 fun v49 w50 =>
  kst 2 v49 v47 w50 fun w51 =>
  kld (.pointer (some ⟨2, 0, none⟩)) w51 fun v52 =>
  kcall Tryz.prog 20 #[v48, v52] w51 fun v53 w54 =>
  kun .not (some .bool) v53 fun v55 =>
  kB v55 fun b56 => kIf (!b56)
  (kcall Tryz.prog 17 #[x6] w54 fun v57 w58 =>
  kint .i64 .neq v57 x5 fun v59 =>
  kB v59 fun b60 => kIf (!b60)
  (kcall Tryz.prog 26 #[x6] w58 fun v61 w62 =>
  kint .i64 .neq v61 v40 fun v63 =>
  f5_8 x1 x5 x6 x8 v63 Q w62)
  (f5_8 x1 x5 x6 x8 (.bool true) Q w58))
  (f5_8 x1 x5 x6 x8 (.bool true) Q w54)

def f5_3 (x8 : Value) (x9 : Value) (x1 : Value) (x5 : Value) (x6 : Value) (J9 : Value → Value → World → Prop) (Q : Value → World → Prop) (w : World) : Prop :=
  kint .i64 .lss x9 x5 fun v20 =>
  kB v20 fun b178 => kIf b178
  (f5_4 x1 x5 x6 x8 x9 J9 Q w)
  (f5_7 x1 x5 x6 x8 Q w)

def f5_2 (x1 : Value) (x5 : Value) (x6 : Value) (Q : Value → World → Prop) (w : World) : Prop :=
  kbldS [(.int .i64 0), (.int .i64 0)] 0 [] 37 w fun v18 w19 =>
  kL fun (I : Value → Value → World → Prop) (μ : Value → Value → World → Nat) => I v18 (.int .i64 0) w19 ∧ ∀ (x8 x9 : Value) (w1 : World), I x8 x9 w1 →
  f5_3 x8 x9 x1 x5 x6 (fun y8 y9 w2 => I y8 y9 w2 ∧ μ y8 y9 w2 < μ x8 x9 w1) Q w1

def f5_1 (x1 : Value) (x5 : Value) (x6 : Value) (x45 : Value) (Q : Value → World → Prop) (w : World) : Prop :=
  kB x45 fun b179 => kIf b179
  (Q (.bool false) w)
  (f5_2 x1 x5 x6 Q w)

def f5_0 (x0 : Value) (x1 : Value) (Q : Value → World → Prop) (w : World) : Prop :=
  kcnv .u64 x0 fun v4 =>
  kint .u64 .rem v4 (.int .u64 65) fun v5 =>
  kcnv .i64 v5 fun v6 =>
  kcall Tryz.prog 13 #[] w fun v7 w8 =>
  kcall Tryz.prog 12 #[v7, v6] w8 fun v9 w10 =>
  kext v9 0 fun v11 =>
  kext v9 1 fun v12 =>
  keq Tryz.prog .eql 26 false true v11 (.pointer none) w10 fun v13 w14 =>
  kB v13 fun b15 => kIf (!b15)
  (keq Tryz.prog .neq 28 false true v12 .nilIface w14 fun v16 w17 =>
  f5_1 x1 v6 v11 v16 Q w17)
  (f5_1 x1 v6 v11 (.bool true) Q w14)

def f5 (x0 : Value) (x1 : Value) (Q : Value → World → Prop) (w : World) : Prop :=
  kcall Tryz.prog 11 #[] w fun v1 w2 =>
  kun .not (some .bool) v1 fun v3 =>
  kB v3 fun b180 => kIf b180
  (Q (.bool false) w2)
  (f5_0 x0 x1 Q w2)

theorem f5_eq (x0 : Value) (x1 : Value) (Q : Value → World → Prop) (w : World) : f5 x0 x1 Q w = fnVC Tryz.prog Tryz.f5 [(9, [8, 9])] (Tryz.f5.body.get rfl) [x0, x1] w Q := by kernel_rfl
theorem f5_ok {x0 : Value} {x1 : Value} {Q : Value → World → Prop} {w : World} (h : f5 x0 x1 Q w) : Meets Tryz.prog 5 #[x0, x1] w Q :=
  sound (c := (Tryz.f5.body.get rfl)) [(9, [8, 9])] Tryz.func5 rfl rfl (args := [x0, x1]) rfl (Eq.mp (f5_eq x0 x1 Q w) h)

/-! pasodoble/pasodoblelaw09.StoreApart -/
def f6_6 (x0 : Value) (x1 : Value) (x2 : Value) (x7 : Value) (x9 : Value) (x10 : Value) (J8 : Value → Value → World → Prop) (Q : Value → World → Prop) (w : World) : Prop :=
  kint .i64 .add x10 (.int .i64 1) fun v50 =>
  J8 x9 v50 w

def f6_5 (x0 : Value) (x1 : Value) (x2 : Value) (x7 : Value) (x9 : Value) (x10 : Value) (x11 : Value) (J8 : Value → Value → World → Prop) (Q : Value → World → Prop) (w : World) : Prop :=
  kldN 2 x11 w fun v45 =>
  kbldS [(.int .i64 0), (.int .i64 0)] 1 [(0, 2, v45)] 37 w fun v46 w47 =>
  ksem Tryz.prog (Builtin.append_ #[42, 42] 0 #[x9, v46]) w47 fun v48 w49 =>
  f6_6 x0 x1 x2 x7 v48 x10 J8 Q w49

def f6_4 (x0 : Value) (x1 : Value) (x2 : Value) (x7 : Value) (x9 : Value) (x10 : Value) (J8 : Value → Value → World → Prop) (Q : Value → World → Prop) (w : World) : Prop :=
  kix (some (.slice 24)) (some 1) x0 x10 fun v30 =>
  kld v30 w fun v31 =>
  kint .u32 .and v31 (.int .u32 255) fun v32 =>
  kint .i64 .mul (.int .i64 100) x10 fun v33 =>
  kcall Tryz.prog 15 #[v32, v33] w fun v34 w35 =>
  kcall Tryz.prog 14 #[x7, v34] w35 fun v36 w37 =>
  kext v36 0 fun v38 =>
  kext v36 1 fun v39 =>
  knew #[(.int .i64 0), (.int .i64 0)] 37 w37 fun v40 w41 =>
  kst 2 v40 v38 w41 fun w42 =>
  keq Tryz.prog .neq 28 false true v39 .nilIface w42 fun v43 w44 =>
  kB v43 fun b51 => kIf b51
  (Q (.bool false) w44)
  (f6_5 x0 x1 x2 x7 x9 x10 v40 J8 Q w44)

def f6_11 (x0 : Value) (x2 : Value) (x7 : Value) (x9 : Value) (x13 : Value) (x14 : Value) (J16 : Value → World → Prop) (Q : Value → World → Prop) (w : World) : Prop :=
  kint .i64 .add x14 (.int .i64 1) fun v77 =>
  J16 v77 w

def f6_12 (x0 : Value) (x2 : Value) (x7 : Value) (x9 : Value) (x13 : Value) (x14 : Value) (x15 : Value) (x16 : Value) (J16 : Value → World → Prop) (Q : Value → World → Prop) (w : World) : Prop :=
  kfld 11 x15 fun v78 =>
  kld v78 w fun v79 =>
  kcnv .u64 v79 fun v80 =>
  kint .u64 .rem v80 (.int .u64 8) fun v81 =>
  kcnv .i64 v81 fun v82 =>
  kfld 13 x15 fun v83 =>
  kld v83 w fun v84 =>
  kbld [(.int .i64 0), (.int .i64 0), (.int .i64 0), (.int .i64 0)] [(0, 1, v84)] fun v85 =>
  kbld [(.int .i64 0), (.int .i64 0), (.int .i64 0), (.int .i64 0), (.int .i64 0), (.int .i64 0)] [(0, 1, v82), (1, 4, v85)] fun v86 =>
  knew #[(.int .i64 0), (.int .i64 0), (.int .i64 0), (.int .i64 0), (.int .i64 0), (.int .i64 0)] 49 w fun v87 w88 =>
  kst 6 v87 v86 w88 fun w89 =>
  kfld 0 x15 fun v90 =>
  kld v90 w89 fun v91 =>
  kint .i64 .eql v91 (.int .i64 2) fun v92 =>
  kB v92 fun b129 => kIf b129
  (kix (some (.slice 37)) (some 2) x9 x16 fun v93 =>
  kldN 2 v93 w89 fun v94 =>
  kcall Tryz.prog 27 #[x7, v94] w89 fun v95 w96 =>
  f6_11 x0 x2 x7 x9 x13 x14 J16 Q w96)
  (kint .i64 .eql v91 (.int .i64 3) fun v97 =>
  kB v97 fun b128 => kIf b128
  (kix (some (.slice 37)) (some 2) x9 x16 fun v98 =>
  kldN 2 v98 w89.drew fun v99 =>
  kG (w89.drew = w89.drew) <|
  kldN 6 v87 w89.drew fun v100 =>
  kG (w89.drew = w89.drew) <|
  kcall Tryz.prog 18 #[x7, v99, v100] w89.drew fun v101 w102 =>
  f6_11 x0 x2 x7 x9 x13 x14 J16 Q w102)
  (kint .i64 .eql v91 (.int .i64 4) fun v103 =>
  kB v103 fun b127 => kIf b127
  (kix (some (.slice 37)) (some 2) x9 x16 fun v104 =>
  kldN 2 v104 w89.drew fun v105 =>
  kG (w89.drew = w89.drew) <|
  kfld 0 v87 fun v106 =>
  kld v106 w89.drew fun v107 =>
  kG (w89.drew = w89.drew) <|
  kcall Tryz.prog 24 #[x7, v105, v107] w89.drew fun v108 w109 =>
  f6_11 x0 x2 x7 x9 x13 x14 J16 Q w109)
  (kint .i64 .eql v91 (.int .i64 5) fun v110 =>
  kB v110 fun b126 => kIf b126
  (kix (some (.slice 37)) (some 2) x9 x16 fun v111 =>
  kldN 2 v111 w89.drew fun v112 =>
  kG (w89.drew = w89.drew) <|
  kldN 6 v87 w89.drew fun v113 =>
  kG (w89.drew = w89.drew) <|
  kcall Tryz.prog 31 #[x7, v112, v113] w89.drew fun v114 w115 =>
  f6_11 x0 x2 x7 x9 x13 x14 J16 Q w115)
  (kint .i64 .eql v91 (.int .i64 6) fun v116 =>
  kB v116 fun b125 => kIf b125
  (kix (some (.slice 37)) (some 2) x9 x16 fun v117 =>
  kldN 2 v117 w89.drew fun v118 =>
  kG (w89.drew = w89.drew) <|
  kfld 0 v87 fun v119 =>
  kld v119 w89.drew fun v120 =>
  kG (w89.drew = w89.drew) <|
  kfld 13 x15 fun v121 =>
  kld v121 w89.drew fun v122 =>
  kG (w89.drew = w89.drew) <|
  kcall Tryz.prog 32 #[x7, v118, v120, (.int .i64 0), v122, x14] w89.drew fun v123 w124 =>
  f6_11 x0 x2 x7 x9 x13 x14 J16 Q w124)
  (f6_11 x0 x2 x7 x9 x13 x14 J16 Q w89)))))

def f6_10 (x0 : Value) (x2 : Value) (x7 : Value) (x9 : Value) (x13 : Value) (x14 : Value) (J16 : Value → World → Prop) (Q : Value → World → Prop) (w : World) : Prop :=
  kix (some (.slice 66)) (some 16) x2 x14 fun v63 =>
  kldN 16 v63 w fun v64 =>
  knew #[(.int .i64 0), (.int .i64 0), (.int .i64 0), (.int .i64 0), (.slice none 0 0), (.int .i64 0), (.int .i64 0), (.int .i64 0), (.int .i64 0), (.int .i64 0), (.int .i64 0), (.int .i64 0), (.int .i64 0), (.int .i64 0), (.int .u32 0), (.int .u32 0)] 66 w fun v65 w66 =>
  kst 16 v65 v64 w66 fun w67 =>
  kfld 1 v65 fun v68 =>
  kld v68 w67 fun v69 =>
  kcnv .u64 v69 fun v70 =>
  klen x9 fun v71 =>
  kcnv .u64 v71 fun v73 =>
  kint .u64 .rem v70 v73 fun v74 =>
  kcnv .i64 v74 fun v75 =>
  kint .i64 .eql v75 x13 fun v76 =>
  kB v76 fun b130 => kIf b130
  (f6_11 x0 x2 x7 x9 x13 x14 J16 Q w67)
  (f6_12 x0 x2 x7 x9 x13 x14 v65 v75 J16 Q w67)

def f6_13 (x0 : Value) (x7 : Value) (x9 : Value) (x13 : Value) (Q : Value → World → Prop) (w : World) : Prop :=
  kix (some (.slice 37)) (some 2) x9 x13 fun v131 =>
  kldN 2 v131 w fun v132 =>
  kcall Tryz.prog 21 #[x7, v132] w fun v133 w134 =>
  kext v133 0 fun v135 =>
  kext v133 1 fun v136 =>
  kix (some (.slice 37)) (some 2) x9 x13 fun v137 =>
  kldN 2 v137 w134 fun v138 =>
  kcall Tryz.prog 33 #[x7, v138] w134 fun v139 w140 =>
  kext v139 0 fun v141 =>
  kext v139 1 fun v142 =>
  keq Tryz.prog .eql 28 false true v136 .nilIface w140 fun v143 w144 =>
  kB v143 fun b145 => kIf b145
  (keq Tryz.prog .eql 28 false true v142 .nilIface w144 fun v146 w147 =>
  kB v146 fun b148 => kIf b148
  (kix (some (.slice 24)) (some 1) x0 x13 fun v149 =>
  kld v149 w147 fun v150 =>
  kint .u32 .and v150 (.int .u32 255) fun v151 =>
  kint .u32 .eql v141 v151 fun v152 =>
  kB v152 fun b153 => kIf b153
  (kix (some (.slice 24)) (some 1) x0 x13 fun v154 =>
  kld v154 w147 fun v155 =>
  kint .u32 .and v155 (.int .u32 255) fun v156 =>
  kint .i64 .mul (.int .i64 100) x13 fun v157 =>
  kcall Tryz.prog 15 #[v156, v157] w147 fun v158 w159 =>
  kcall Tryz.prog 25 #[v135, v158] w159 fun v160 w161 =>
  Q v160 w161)
  (Q (.bool false) w147))
  (Q (.bool false) w147))
  (Q (.bool false) w144)

def f6_9 (x0 : Value) (x2 : Value) (x7 : Value) (x9 : Value) (x13 : Value) (x14 : Value) (x87 : Value) (J16 : Value → World → Prop) (Q : Value → World → Prop) (w : World) : Prop :=
  kB x87 fun b162 => kIf b162
  (f6_10 x0 x2 x7 x9 x13 x14 J16 Q w)
  (f6_13 x0 x7 x9 x13 Q w)

def f6_8 (x14 : Value) (x0 : Value) (x2 : Value) (x7 : Value) (x9 : Value) (x13 : Value) (J16 : Value → World → Prop) (Q : Value → World → Prop) (w : World) : Prop :=
  klen x2 fun v58 =>
  kint .i64 .lss x14 v58 fun v60 =>
  kB v60 fun b61 => kIf b61
  (kint .i64 .lss x14 (.int .i64 150) fun v62 =>
  f6_9 x0 x2 x7 x9 x13 x14 v62 J16 Q w)
  (f6_9 x0 x2 x7 x9 x13 x14 (.bool false) J16 Q w)

def f6_7 (x0 : Value) (x1 : Value) (x2 : Value) (x7 : Value) (x9 : Value) (Q : Value → World → Prop) (w : World) : Prop :=
  kcnv .u64 x1 fun v52 =>
  klen x9 fun v53 =>
  kcnv .u64 v53 fun v55 =>
  kint .u64 .rem v52 v55 fun v56 =>
  kcnv .i64 v56 fun v57 =>
  kL fun (I : Value → World → Prop) (μ : Value → World → Nat) => I (.int .i64 0) w ∧ ∀ (x14 : Value) (w1 : World), I x14 w1 →
  f6_8 x14 x0 x2 x7 x9 v57 (fun y14 w2 => I y14 w2 ∧ μ y14 w2 < μ x14 w1) Q w1

def f6_3 (x9 : Value) (x10 : Value) (x0 : Value) (x1 : Value) (x2 : Value) (x7 : Value) (J8 : Value → Value → World → Prop) (Q : Value → World → Prop) (w : World) : Prop :=
  klen x0 fun v27 =>
  kint .i64 .lss x10 v27 fun v29 =>
  kB v29 fun b163 => kIf b163
  (f6_4 x0 x1 x2 x7 x9 x10 J8 Q w)
  (f6_7 x0 x1 x2 x7 x9 Q w)

def f6_2 (x0 : Value) (x1 : Value) (x2 : Value) (x7 : Value) (Q : Value → World → Prop) (w : World) : Prop :=
  kbldS [(.int .i64 0), (.int .i64 0)] 0 [] 37 w fun v25 w26 =>
  kL fun (I : Value → Value → World → Prop) (μ : Value → Value → World → Nat) => I v25 (.int .i64 0) w26 ∧ ∀ (x9 x10 : Value) (w1 : World), I x9 x10 w1 →
  f6_3 x9 x10 x0 x1 x2 x7 (fun y9 y10 w2 => I y9 y10 w2 ∧ μ y9 y10 w2 < μ x9 x10 w1) Q w1

def f6_1 (x0 : Value) (x1 : Value) (x2 : Value) (x7 : Value) (x8 : Value) (x44 : Value) (Q : Value → World → Prop) (w : World) : Prop :=
  kB x44 fun b164 => kIf b164
  (keq Tryz.prog .eql 28 false true x8 .nilIface w fun v23 w24 =>
  Q v23 w24)
  (f6_2 x0 x1 x2 x7 Q w)

def f6_0 (x0 : Value) (x1 : Value) (x2 : Value) (Q : Value → World → Prop) (w : World) : Prop :=
  kcall Tryz.prog 13 #[] w fun v4 w5 =>
  kcall Tryz.prog 12 #[v4, (.int .i64 64)] w5 fun v6 w7 =>
  kext v6 0 fun v8 =>
  kext v6 1 fun v9 =>
  keq Tryz.prog .eql 26 false true v8 (.pointer none) w7 fun v10 w11 =>
  kB v10 fun b12 => kIf (!b12)
  (keq Tryz.prog .neq 28 false true v9 .nilIface w11 fun v13 w14 =>
  kB v13 fun b15 => kIf (!b15)
  (klen x0 fun v16 =>
  kint .i64 .eql v16 (.int .i64 0) fun v18 =>
  kB v18 fun b19 => kIf (!b19)
  (klen x0 fun v20 =>
  kint .i64 .gtr v20 (.int .i64 60) fun v22 =>
  f6_1 x0 x1 x2 v8 v9 v22 Q w14)
  (f6_1 x0 x1 x2 v8 v9 (.bool true) Q w14))
  (f6_1 x0 x1 x2 v8 v9 (.bool true) Q w14))
  (f6_1 x0 x1 x2 v8 v9 (.bool true) Q w11)

def f6 (x0 : Value) (x1 : Value) (x2 : Value) (Q : Value → World → Prop) (w : World) : Prop :=
  kcall Tryz.prog 11 #[] w fun v1 w2 =>
  kun .not (some .bool) v1 fun v3 =>
  kB v3 fun b165 => kIf b165
  (Q (.bool false) w2)
  (f6_0 x0 x1 x2 Q w2)

/-! pasodoble/pasodoblelaw09.awake -/
def f11_1 (x1 : Value) (Q : Value → World → Prop) (w : World) : Prop :=
  kbld [(.int .i64 0), (.int .i64 0), (.int .i64 0), (.int .i64 0), (.int .i64 0), (.int .i64 0)] [(0, 1, (.int .i64 1))] fun v12 =>
  kbld [(.int .i64 0), (.int .i64 0), (.int .i64 0), (.int .i64 0)] [(0, 1, (.int .i64 5))] fun v13 =>
  kbld [(.int .i64 0), (.int .i64 0), (.int .i64 0), (.int .i64 0), (.int .i64 0), (.int .i64 0)] [(0, 1, (.int .i64 0)), (1, 4, v13)] fun v14 =>
  kbldS [(.int .i64 0), (.int .i64 0), (.int .i64 0), (.int .i64 0), (.int .i64 0), (.int .i64 0)] 2 [(0, 6, v12), (6, 6, v14)] 49 w fun v15 w16 =>
  kcall Tryz.prog 14 #[x1, v15] w16 fun v17 w18 =>
  kext v17 0 fun v19 =>
  kext v17 1 fun v20 =>
  knew #[(.int .i64 0), (.int .i64 0)] 37 w18 fun v21 w22 =>
  kst 2 v21 v19 w22 fun w23 =>
  kbld [(.int .i64 0), (.int .i64 0), (.int .i64 0), (.int .i64 0), (.int .i64 0), (.int .i64 0)] [(0, 1, (.int .i64 0))] fun v24 =>
  kbld [(.int .i64 0), (.int .i64 0), (.int .i64 0), (.int .i64 0), (.int .i64 0), (.int .i64 0)] [(0, 1, (.int .i64 1))] fun v25 =>
  kbldS [(.int .i64 0), (.int .i64 0), (.int .i64 0), (.int .i64 0), (.int .i64 0), (.int .i64 0)] 2 [(0, 6, v24), (6, 6, v25)] 49 w23 fun v26 w27 =>
  kcall Tryz.prog 14 #[x1, v26] w27 fun v28 w29 =>
  kext v28 0 fun v30 =>
  kext v28 1 fun v31 =>
  knew #[(.int .i64 0), (.int .i64 0)] 37 w29 fun v32 w33 =>
  kst 2 v32 v30 w33 fun w34 =>
  kldN 2 v21 w34 fun v35 =>
  kcall Tryz.prog 28 #[x1, v35, (.int .i64 0)] w34 fun v36 w37 =>
  kext v36 0 fun v38 =>
  kext v36 1 fun v39 =>
  knew #[(.int .i64 0), (.int .i64 0), (.int .i64 0), (.int .i64 0), (.int .i64 0), (.int .i64 0)] 49 w37 fun v40 w41 =>
  kst 6 v40 v38 w41 fun w42 =>
  kldN 2 v32 w42 fun v43 =>
  kcall Tryz.prog 24 #[x1, v43, (.int .i64 1)] w42 fun v44 w45 =>
  kext v44 0 fun v46 =>
  kext v44 1 fun v47 =>
  knew #[(.int .i64 0), (.int .i64 0), (.int .i64 0), (.int .i64 0), (.int .i64 0), (.int .i64 0)] 49 w45 fun v48 w49 =>
  kst 6 v48 v46 w49 fun w50 =>
  kldN 2 v32 w50 fun v51 =>
  kcall Tryz.prog 32 #[x1, v51, (.int .i64 1), (.int .i64 0), (.int .i64 0), (.int .i64 0)] w50 fun v52 w53 =>
  kext v52 0 fun v54 =>
  kext v52 1 fun v55 =>
  knew #[(.int .i64 0), (.int .i64 0), (.int .i64 0), (.int .i64 0), (.int .i64 0), (.int .i64 0)] 49 w53 fun v56 w57 =>
  kst 6 v56 v54 w57 fun w58 =>
  kldN 2 v21 w58 fun v59 =>
  kcall Tryz.prog 32 #[x1, v59, (.int .i64 0), (.int .i64 0), (.int .i64 9), (.int .i64 3)] w58 fun v60 w61 =>
  kext v60 0 fun v62 =>
  kext v60 1 fun v63 =>
  knew #[(.int .i64 0), (.int .i64 0), (.int .i64 0), (.int .i64 0), (.int .i64 0), (.int .i64 0)] 49 w61 fun v64 w65 =>
  kst 6 v64 v62 w65 fun w66 =>
  kfld 1 v40 fun v67 =>
  kix (some (.array 4 3)) (some 1) v67 (.int .i64 0) fun v68 =>
  kld v68 w66 fun v69 =>
  kint .i64 .eql v69 (.int .i64 5) fun v70 =>
  kB v70 fun b71 => kIf b71
  (keq Tryz.prog .eql 28 false true v39 .nilIface w66 fun v72 w73 =>
  kB v72 fun b74 => kIf b74
  (keq Tryz.prog .eql 28 false true v47 .nilIface w73 fun v75 w76 =>
  kB v75 fun b77 => kIf b77
  (kld (.pointer (some ⟨1, 0, none⟩)) w76 fun v78 =>
  kcall Tryz.prog 20 #[v55, v78] w76 fun v79 w80 =>
  kB v79 fun b81 => kIf b81
  (kldN 6 v64 w80 fun v82 =>
  kldN 6 v40 w80 fun v83 =>
  keq Tryz.prog .eql 49 false false v82 v83 w80 fun v84 w85 =>
  kB v84 fun b86 => kIf b86
  (keq Tryz.prog .eql 28 false true v63 .nilIface w85 fun v87 w88 =>
  kB v87 fun b89 => kIf b89
  (kcall Tryz.prog 17 #[x1] w88 fun v90 w91 =>
  kint .i64 .eql v90 (.int .i64 2) fun v92 =>
  kB v92 fun b93 => kIf b93
  (kcall Tryz.prog 26 #[x1] w91 fun v94 w95 =>
  kint .i64 .eql v94 (.int .i64 3) fun v96 =>
  kB v96 fun b97 => kIf b97
  (kcall Tryz.prog 16 #[x1, (.int .u32 1), (.int .u32 0)] w95 fun v98 w99 =>
  klen v98 fun v100 =>
  kint .i64 .eql v100 (.int .i64 2) fun v102 =>
  kB v102 fun b103 => kIf b103
  (kcall Tryz.prog 16 #[x1, (.int .u32 1), (.int .u32 2)] w99 fun v104 w105 =>
  klen v104 fun v106 =>
  kint .i64 .eql v106 (.int .i64 1) fun v108 =>
  kB v108 fun b109 => kIf b109
  (kcall Tryz.prog 30 #[x1, (.int .i64 0), (.int .i64 3)] w105 fun v110 w111 =>
  klen v110 fun v112 =>
  kint .i64 .eql v112 (.int .i64 1) fun v114 =>
  kB v114 fun b115 => kIf b115
  (kldN 2 v32 w111 fun v116 =>
  kcall Tryz.prog 29 #[x1, v116] w111 fun v117 w118 =>
  Q v117 w118)
  (Q (.bool false) w111))
  (Q (.bool false) w105))
  (Q (.bool false) w99))
  (Q (.bool false) w95))
  (Q (.bool false) w91))
  (Q (.bool false) w88))
  (Q (.bool false) w85))
  (Q (.bool false) w80))
  (Q (.bool false) w76))
  (Q (.bool false) w73))
  (Q (.bool false) w66)

def f11_0 (x1 : Value) (x25 : Value) (Q : Value → World → Prop) (w : World) : Prop :=
  kB x25 fun b119 => kIf b119
  (Q (.bool false) w)
  (f11_1 x1 Q w)

def f11 (Q : Value → World → Prop) (w : World) : Prop :=
  kcall Tryz.prog 66 #[] w fun v1 w2 =>
  kcall Tryz.prog 12 #[v1, (.int .i64 4)] w2 fun v3 w4 =>
  kext v3 0 fun v5 =>
  kext v3 1 fun v6 =>
  keq Tryz.prog .eql 26 false true v5 (.pointer none) w4 fun v7 w8 =>
  kB v7 fun b9 => kIf (!b9)
  (keq Tryz.prog .neq 28 false true v6 .nilIface w8 fun v10 w11 =>
  f11_0 v5 v10 Q w11)
  (f11_0 v5 (.bool true) Q w8)

theorem f11_eq (Q : Value → World → Prop) (w : World) : f11 Q w = fnVC Tryz.prog Tryz.f11 [] (Tryz.f11.body.get rfl) [] w Q := by kernel_rfl
theorem f11_ok {Q : Value → World → Prop} {w : World} (h : f11 Q w) : Meets Tryz.prog 11 #[] w Q :=
  sound (c := (Tryz.f11.body.get rfl)) [] Tryz.func11 rfl rfl (args := []) rfl (Eq.mp (f11_eq Q w) h)

/-! pasodoble/pasodoblelaw09.wide -/
def f13_2 (x0 : Value) (x1 : Value) (x2 : Value) (J3 : Value → World → Prop) (Q : Value → World → Prop) (w : World) : Prop :=
  kint .i64 .add x2 (.int .i64 1) fun v21 =>
  J3 v21 w

def f13_1 (x0 : Value) (x1 : Value) (x2 : Value) (J3 : Value → World → Prop) (Q : Value → World → Prop) (w : World) : Prop :=
  kfld 0 x1 fun v8 =>
  kld v8 w.drew fun v9 =>
  kG (w.drew = w.drew) <|
  kint .i64 .add x2 (.int .i64 1) fun v10 =>
  ksl (some .string) none (.string ⟨#[97, 98, 99, 100, 101, 102, 103, 104]⟩) (some x2) (some v10) fun v11 =>
  kint .i64 .rem x2 (.int .i64 2) fun v12 =>
  kint .i64 .eql v12 (.int .i64 0) fun v13 =>
  kbld [(.string ⟨#[]⟩), (.int .i64 0), (.bool false), (.int .i64 0), (.int .i64 0), (.int .i64 0), (.int .i64 0)] [(0, 1, v11), (1, 1, (.int .i64 1)), (2, 1, v13)] fun v14 =>
  kbldS [(.string ⟨#[]⟩), (.int .i64 0), (.bool false), (.int .i64 0), (.int .i64 0), (.int .i64 0), (.int .i64 0)] 1 [(0, 7, v14)] 132 w.drew fun v15 w16 =>
  kG (kld v8 w16 fun v22 =>
  v22 = v9 ∧ w16 = w16) <|
  ksem Tryz.prog (Builtin.append_ #[31, 31] 0 #[v9, v15]) w16 fun v17 w18 =>
  kfld 0 x1 fun v19 =>
  kst 1 v19 v17 w18 fun w20 =>
  f13_2 x0 x1 x2 J3 Q w20

def f13_3 (x0 : Value) (x1 : Value) (Q : Value → World → Prop) (w : World) : Prop :=
  kldN 2 x1 w fun v23 =>
  kst 2 x0 v23 w fun w24 =>
  kldN 2 x0 w24 fun v25 =>
  Q v25 w24

def f13_0 (x2 : Value) (x0 : Value) (x1 : Value) (J3 : Value → World → Prop) (Q : Value → World → Prop) (w : World) : Prop :=
  kint .i64 .lss x2 (.int .i64 8) fun v7 =>
  kB v7 fun b26 => kIf b26
  (f13_1 x0 x1 x2 J3 Q w)
  (f13_3 x0 x1 Q w)

def f13 (Q : Value → World → Prop) (w : World) : Prop :=
  knew #[(.slice none 0 0), (.slice none 0 0)] 34 w fun v1 w2 =>
  kbld [(.slice none 0 0), (.slice none 0 0)] [] fun v3 =>
  knew #[(.slice none 0 0), (.slice none 0 0)] 34 w2 fun v4 w5 =>
  kst 2 v4 v3 w5 fun w6 =>
  kL fun (I : Value → World → Prop) (μ : Value → World → Nat) => I (.int .i64 0) w6 ∧ ∀ (x2 : Value) (w1 : World), I x2 w1 →
  f13_0 x2 v1 v4 (fun y2 w2 => I y2 w2 ∧ μ y2 w2 < μ x2 w1) Q w1

theorem f13_eq (Q : Value → World → Prop) (w : World) : f13 Q w = fnVC Tryz.prog Tryz.f13 [(3, [2])] (Tryz.f13.body.get rfl) [] w Q := by kernel_rfl
theorem f13_ok {Q : Value → World → Prop} {w : World} (h : f13 Q w) : Meets Tryz.prog 13 #[] w Q :=
  sound (c := (Tryz.f13.body.get rfl)) [(3, [2])] Tryz.func13 rfl rfl (args := []) rfl (Eq.mp (f13_eq Q w) h)

/-! pasodoble/pasodoblelaw09.two -/
def f66 (Q : Value → World → Prop) (w : World) : Prop :=
  knew #[(.slice none 0 0), (.slice none 0 0)] 34 w fun v1 w2 =>
  kbld [(.string ⟨#[]⟩), (.int .i64 0), (.bool false), (.int .i64 0), (.int .i64 0), (.int .i64 0), (.int .i64 0)] [(0, 1, (.string ⟨#[97]⟩)), (1, 1, (.int .i64 1)), (2, 1, (.bool true))] fun v3 =>
  kbld [(.string ⟨#[]⟩), (.int .i64 0), (.bool false), (.int .i64 0), (.int .i64 0), (.int .i64 0), (.int .i64 0)] [(0, 1, (.string ⟨#[98]⟩)), (1, 1, (.int .i64 2))] fun v4 =>
  kbldS [(.string ⟨#[]⟩), (.int .i64 0), (.bool false), (.int .i64 0), (.int .i64 0), (.int .i64 0), (.int .i64 0)] 2 [(0, 7, v3), (7, 7, v4)] 132 w2 fun v5 w6 =>
  kbld [(.slice none 0 0), (.slice none 0 0)] [(0, 1, v5)] fun v7 =>
  kst 2 v1 v7 w6 fun w8 =>
  kldN 2 v1 w8 fun v9 =>
  Q v9 w8

theorem f66_eq (Q : Value → World → Prop) (w : World) : f66 Q w = fnVC Tryz.prog Tryz.f66 [] (Tryz.f66.body.get rfl) [] w Q := by kernel_rfl
theorem f66_ok {Q : Value → World → Prop} {w : World} (h : f66 Q w) : Meets Tryz.prog 66 #[] w Q :=
  sound (c := (Tryz.f66.body.get rfl)) [] Tryz.func66 rfl rfl (args := []) rfl (Eq.mp (f66_eq Q w) h)

/-! pasodoble/pasodoblelaw09.parts -/
def f15_2 (x0 : Value) (x1 : Value) (x5 : Value) (x6 : Value) (J3 : Value → Value → World → Prop) (Q : Value → World → Prop) (w : World) : Prop :=
  kint .i64 .add x6 (.int .i64 1) fun v14 =>
  J3 x5 v14 w

def f15_1 (x0 : Value) (x1 : Value) (x5 : Value) (x6 : Value) (J3 : Value → Value → World → Prop) (Q : Value → World → Prop) (w : World) : Prop :=
  kint .u32 .shr x0 x6 fun v4 =>
  kint .u32 .rem v4 (.int .u32 2) fun v5 =>
  kint .u32 .eql v5 (.int .u32 1) fun v6 =>
  kB v6 fun b15 => kIf b15
  (kint .i64 .add x1 x6 fun v7 =>
  kbld [(.int .i64 0), (.int .i64 0), (.int .i64 0), (.int .i64 0)] [(0, 1, v7)] fun v8 =>
  kbld [(.int .i64 0), (.int .i64 0), (.int .i64 0), (.int .i64 0), (.int .i64 0), (.int .i64 0)] [(0, 1, x6), (1, 4, v8), (5, 1, x6)] fun v9 =>
  kbldS [(.int .i64 0), (.int .i64 0), (.int .i64 0), (.int .i64 0), (.int .i64 0), (.int .i64 0)] 1 [(0, 6, v9)] 49 w fun v10 w11 =>
  ksem Tryz.prog (Builtin.append_ #[40, 40] 0 #[x5, v10]) w11 fun v12 w13 =>
  f15_2 x0 x1 v12 x6 J3 Q w13)
  (f15_2 x0 x1 x5 x6 J3 Q w)

def f15_3 (x5 : Value) (Q : Value → World → Prop) (w : World) : Prop :=
  Q x5 w

def f15_0 (x5 : Value) (x6 : Value) (x0 : Value) (x1 : Value) (J3 : Value → Value → World → Prop) (Q : Value → World → Prop) (w : World) : Prop :=
  kint .i64 .lss x6 (.int .i64 8) fun v3 =>
  kB v3 fun b16 => kIf b16
  (f15_1 x0 x1 x5 x6 J3 Q w)
  (f15_3 x5 Q w)

def f15 (x0 : Value) (x1 : Value) (Q : Value → World → Prop) (w : World) : Prop :=
  kbldS [(.int .i64 0), (.int .i64 0), (.int .i64 0), (.int .i64 0), (.int .i64 0), (.int .i64 0)] 0 [] 49 w fun v1 w2 =>
  kL fun (I : Value → Value → World → Prop) (μ : Value → Value → World → Nat) => I v1 (.int .i64 0) w2 ∧ ∀ (x5 x6 : Value) (w1 : World), I x5 x6 w1 →
  f15_0 x5 x6 x0 x1 (fun y5 y6 w2 => I y5 y6 w2 ∧ μ y5 y6 w2 < μ x5 x6 w1) Q w1

theorem f15_eq (x0 : Value) (x1 : Value) (Q : Value → World → Prop) (w : World) : f15 x0 x1 Q w = fnVC Tryz.prog Tryz.f15 [(3, [5, 6])] (Tryz.f15.body.get rfl) [x0, x1] w Q := by kernel_rfl
theorem f15_ok {x0 : Value} {x1 : Value} {Q : Value → World → Prop} {w : World} (h : f15 x0 x1 Q w) : Meets Tryz.prog 15 #[x0, x1] w Q :=
  sound (c := (Tryz.f15.body.get rfl)) [(3, [5, 6])] Tryz.func15 rfl rfl (args := [x0, x1]) rfl (Eq.mp (f15_eq x0 x1 Q w) h)

/-! pasodoble/pasodobleref09.Same -/
def f25_3 (x0 : Value) (x1 : Value) (x5 : Value) (J4 : Value → World → Prop) (Q : Value → World → Prop) (w : World) : Prop :=
  kint .i64 .add x5 (.int .i64 1) fun v15 =>
  J4 v15 w

def f25_2 (x0 : Value) (x1 : Value) (x5 : Value) (J4 : Value → World → Prop) (Q : Value → World → Prop) (w : World) : Prop :=
  kix (some (.slice 49)) (some 6) x0 x5 fun v9 =>
  kldN 6 v9 w.drew fun v10 =>
  kG (w.drew = w.drew) <|
  kix (some (.slice 49)) (some 6) x1 x5 fun v11 =>
  kldN 6 v11 w.drew fun v12 =>
  kG (w.drew = w.drew) <|
  keq Tryz.prog .neq 49 false false v10 v12 w.drew fun v13 w14 =>
  kG (w14 = w.drew) <|
  kB v13 fun b16 => kIf b16
  (Q (.bool false) w14)
  (f25_3 x0 x1 x5 J4 Q w14)

def f25_4 (Q : Value → World → Prop) (w : World) : Prop :=
  Q (.bool true) w

def f25_1 (x5 : Value) (x0 : Value) (x1 : Value) (J4 : Value → World → Prop) (Q : Value → World → Prop) (w : World) : Prop :=
  klen x0 fun v6 =>
  kint .i64 .lss x5 v6 fun v8 =>
  kB v8 fun b17 => kIf b17
  (f25_2 x0 x1 x5 J4 Q w)
  (f25_4 Q w)

def f25_0 (x0 : Value) (x1 : Value) (Q : Value → World → Prop) (w : World) : Prop :=
  kL fun (I : Value → World → Prop) (μ : Value → World → Nat) => I (.int .i64 0) w ∧ ∀ (x5 : Value) (w1 : World), I x5 w1 →
  f25_1 x5 x0 x1 (fun y5 w2 => I y5 w2 ∧ μ y5 w2 < μ x5 w1) Q w1

def f25 (x0 : Value) (x1 : Value) (Q : Value → World → Prop) (w : World) : Prop :=
  klen x0 fun v1 =>
  klen x1 fun v3 =>
  kint .i64 .neq v1 v3 fun v5 =>
  kB v5 fun b18 => kIf b18
  (Q (.bool false) w)
  (f25_0 x0 x1 Q w)

theorem f25_eq (x0 : Value) (x1 : Value) (Q : Value → World → Prop) (w : World) : f25 x0 x1 Q w = fnVC Tryz.prog Tryz.f25 [(4, [5])] (Tryz.f25.body.get rfl) [x0, x1] w Q := by kernel_rfl
theorem f25_ok {x0 : Value} {x1 : Value} {Q : Value → World → Prop} {w : World} (h : f25 x0 x1 Q w) : Meets Tryz.prog 25 #[x0, x1] w Q :=
  sound (c := (Tryz.f25.body.get rfl)) [(4, [5])] Tryz.func25 rfl rfl (args := [x0, x1]) rfl (Eq.mp (f25_eq x0 x1 Q w) h)

end Go.Proofs.YtlkpadfkmdgjcaaGreatDoor
end
section
set_option linter.unusedSimpArgs false
set_option linter.unusedVariables false
namespace Go.Proofs.YtlkpadfkmdgjcaaGreatDoor
open Go Go.Ev
set_option linter.unusedVariables false
set_option linter.unusedSimpArgs false
set_option maxRecDepth 100000
attribute [local irreducible] kO kB kStr kInt kN kG kIf kfld kld kldN kst knew kmap kbld kbldS kext kcnv klenStr klen kcap kprt kprtN kbool kint kstr keq kun ksl kix kiv kta kmk kmm ksem ksemU kextf kcallV kcallM kcall kL

deriving instance DecidableEq for Part
theorem wf_i64 {n : Int} (h : I64 n) : (Lit.int .i64 n).wf = true := by
  simp [Lit.wf, IntKind.min, IntKind.max, IntKind.signed, IntKind.bits]
  exact h
theorem cellsInt : Tryz.prog.cellsOf 3 = 1 := by kernel_rfl
theorem cellsArr : Tryz.prog.cellsOf 47 = 4 := by kernel_rfl
theorem cellsPart : Tryz.prog.cellsOf 49 = 6 := by kernel_rfl
theorem kl_int {n : Int} (h : I64 n) (d : Nat) : Tryz.prog.keyLits (d + 1) 3 [.int .i64 n] = some [.int .i64 n] := by
  unfold Program.keyLits
  simp only [Tryz.underlying3]
  rw [if_pos ⟨trivial, wf_i64 h⟩]
theorem kl_arr {a b c e : Int} (h1 : I64 a) (h2 : I64 b) (h3 : I64 c) (h4 : I64 e) (d : Nat) :
    Tryz.prog.keyLits (d + 2) 47 [.int .i64 a, .int .i64 b, .int .i64 c, .int .i64 e] = some [.int .i64 a, .int .i64 b, .int .i64 c, .int .i64 e] := by
  unfold Program.keyLits
  simp only [Tryz.underlying47, cellsInt, cellsArr]
  rw [if_pos (by rfl), show List.range 4 = [0, 1, 2, 3] from rfl]
  simp [kl_int h1, kl_int h2, kl_int h3, kl_int h4]
theorem kl_part {p : Part} (h : p.ok) (d : Nat) :
    Tryz.prog.keyLits (d + 3) 49 p.cells = some [.int .i64 p.comp, .int .i64 p.v0, .int .i64 p.v1, .int .i64 p.v2, .int .i64 p.v3, .int .i64 p.tick] := by
  obtain ⟨h1, h2, h3, h4, h5, h6⟩ := h
  unfold Program.keyLits
  simp only [Tryz.underlying49, cellsPart]
  rw [if_pos ⟨by rfl, by kernel_rfl⟩]
  simp [cellsInt, cellsArr, Part.cells, kl_int h1, kl_int h6, kl_arr h2 h3 h4 h5]
theorem keyPart : Tryz.prog.keyTypeAt 10 49 = true := by kernel_rfl
theorem guardPart : Tryz.prog.eqGuardType Tryz.prog.depth 49 = false := by kernel_rfl
theorem formPart (p : Part) : Value.formed Tryz.prog 49 (.agg p.cells.toArray) = true := by
  unfold Value.formed
  simp only [Tryz.underlying49, cellsPart]
  rfl
theorem keq_partE {p q : Part} (hp : p.ok) (hq : q.ok) {w : World} {K : Value → World → Prop} {cx cy : Bool} :
    keq Tryz.prog .eql 49 cx cy (.agg p.cells.toArray) (.agg q.cells.toArray) w K = K (.bool (decide (p = q))) w := by
  obtain ⟨r, hr, hiff⟩ := run_equalIn_deep (P := Tryz.prog) 9990 10 49 keyPart w 3 3 (.agg p.cells.toArray) (.agg q.cells.toArray) _ _ (formPart p) (formPart q) (kl_part hp 0) (kl_part hq 0)
  have hr2 : r = decide (p = q) := by
    rw [Bool.eq_iff_iff, hiff, decide_eq_true_eq]
    cases p; cases q
    simp
  rw [hr2] at hr
  simp only [keq, eqW, semV, Sem.run_bind, run_eqGuard_agg w .eql 49 _ _ p.cells.toArray q.cells.toArray guardPart, Result.andThen_ok, run_eql_struct]
  rw [show (10000 : Nat) = 9990 + 10 from rfl, hr]
  rfl

/-! ### The schema of two components -/
def twoC : List Comp := [⟨⟨#[97]⟩, 1, true, 0, 0, 0, 0⟩, ⟨⟨#[98]⟩, 2, false, 0, 0, 0, 0⟩]
theorem twoC_good : GoodSc twoC where
  len := by decide
  names q hq := by
    simp only [twoC, List.mem_cons, List.not_mem_nil, or_false] at hq
    rcases hq with rfl | rfl <;> exact ⟨by decide, by decide, by decide⟩
  apart i j hi hj e := by
    have hi : i < 2 := hi
    have hj : j < 2 := hj
    have : i = 0 ∨ i = 1 := by omega
    have : j = 0 ∨ j = 1 := by omega
    rcases ‹i = 0 ∨ i = 1› with rfl | rfl <;> rcases ‹j = 0 ∨ j = 1› with rfl | rfl
    · rfl
    · exact absurd (congrArg (fun b : ByteArray => b.data.toList) e) (by simp [twoC])
    · exact absurd (congrArg (fun b : ByteArray => b.data.toList) e) (by simp [twoC])
    · rfl
  wide q hq := by
    simp only [twoC, List.mem_cons, List.not_mem_nil, or_false] at hq
    rcases hq with rfl | rfl
    · exact ⟨1, rfl, by decide, by decide⟩
    · exact ⟨2, rfl, by decide, by decide⟩
  zero q hq := by
    simp only [twoC, List.mem_cons, List.not_mem_nil, or_false] at hq
    rcases hq with rfl | rfl <;> exact ⟨rfl, rfl, rfl, rfl⟩
theorem two_spec (w : World) : Meets Tryz.prog 66 #[] w fun v w' => ∃ a c, v = scV a twoC.length c (.slice none 0 0) ∧ SlIs w' a twoC.length 7 (twoC.flatMap Comp.cells) ∧ Same w w' := by
  refine f66_ok ?_
  unfold f66
  refine knew_of fun w2 h2 hs2 hb2 => ?_
  refine kbld_of (cs := [.string ⟨#[97]⟩, .int .i64 1, .bool true, .int .i64 0, .int .i64 0, .int .i64 0, .int .i64 0]) rfl ?_
  refine kbld_of (cs := [.string ⟨#[98]⟩, .int .i64 2, .bool false, .int .i64 0, .int .i64 0, .int .i64 0, .int .i64 0]) rfl ?_
  refine kbldS_of (cs := twoC.flatMap Comp.cells) rfl fun w6 h6 hs6 hb6 => ?_
  refine kbld_of (cs := [.slice (some ⟨w2.heap.size, 0, none⟩) 2 2, .slice none 0 0]) rfl ?_
  refine kst_of (vs := [.slice (some ⟨w2.heap.size, 0, none⟩) 2 2, .slice none 0 0]) (h6.get hb2 (fun h => h)) rfl rfl rfl (by simp) (by simp) fun w8 h8 hs8 hb8 => ?_
  have hb8 : blk w8 w.heap.size = some (.cells #[.slice (some ⟨w2.heap.size, 0, none⟩) 2 2, .slice none 0 0] 34) := hb8
  have hb68 := h8.get hb6 (by omega)
  repeat (first | refine kN_at ?_ | refine kB_at ?_ | refine kfld_of ?_ | refine kext_at rfl ?_ | refine kld_at hb8 rfl ?_ | refine kldN_at hb8 rfl (by omega) ?_ | refine kG_of (by first | exact rfl | omega) ?_ | refine klen_at ?_ | refine eql_at ?_ | refine neq_at ?_ | refine lss_at ?_ | refine leq_at ?_ | refine gtr_at ?_ | refine geq_at ?_ | refine add_at (by omega) (by omega) ?_ | refine sub_at (by omega) (by omega) ?_ | refine not_at ?_ | refine kO_at ?_ | refine kprt_at rfl ?_ | refine kprtN_at rfl ?_ | refine kcap_at ?_ | refine klenStr_at ?_ | refine kN_iat ?_ | refine kN_fat ?_ | refine kIf_T (by first | exact rfl | exact decT (by omega) | exact notT (decF (by omega))) ?_ | refine kIf_F (by first | exact rfl | exact decF (by omega) | exact notF (decT (by omega))) ?_)
  exact ⟨_, _, rfl, SlIs.blk hb68 rfl, (h2.trans h6).trans' (h8.mono fun k _ e => .inr (by omega))⟩
end Go.Proofs.YtlkpadfkmdgjcaaGreatDoor
end
